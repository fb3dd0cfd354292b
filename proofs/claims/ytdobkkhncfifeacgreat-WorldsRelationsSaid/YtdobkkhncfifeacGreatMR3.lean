/-
  R7, R8, R9, in one text: see the remarks at the head of each part.
-/
import Derived.Test.YtdobkkhncfifeacGreatMR2
namespace Go.Proofs.YtdobkkhncfifeacGreat.Gx
open Go Go.RowKit Tw B Nt
set_option linter.unusedVariables false
set_option linter.unusedSimpArgs false
set_option maxHeartbeats 4000000
set_option maxRecDepth 20000
@[go_sem] noncomputable def ES2:Env:=((ES1).addM 78 bsfM).addM 80 insKM
theorem ES2_ok:ES2.Ok:=((ES1_ok).addM bsfM_ok).addM insKM_ok
def kfR (r:Rel) (n:Nat):List Val:=keyL r.1.2.2 (r.2.getD n tz).1
def grpB (r:Rel):List (List Int):=if r.1.2.1=true then [] else (blkS (kfR r) r.2.length).2
def lenR (r:Rel):Prop:=∀ t∈r.2,t.1.length=r.1.2.2.length
theorem keyL_len {cs:List Col} {v:List Val} {n:Nat} (h:cs.length<=n):(keyL cs v).length<=n:=by
 unfold keyL
 split
 ·exact Nat.zero_le _
 ·exact Nat.le_trans (keyG_len _ _ _) h
theorem kfR_len {r:Rel} (h:lenR r) {j:Nat} (hj:j<r.2.length):(kfR r j).length=((List.range r.1.2.2.length).filter fun i=>(r.1.2.2.getD i cz).2.2).length:=by
 unfold kfR keyL
 rw [if_neg (by rw [h _ (getDm tz hj)]; simp)]
 unfold keyG
 rw [List.length_map]
theorem both1 {α:Type} {G:Prop} {H:List It->St->Prop} {k:List It} {inv:α->St} {Q:α->Prop} (h1:(∀ x,Q x->H k (inv x))->G) (h2:∀ x,Q x->H k (inv x)):G:=h1 h2
@[go_sem] def grpS:Spec:=⟨[relT],fun d=>(.dat (.slice (.slice (.int .i64))) (grpB d.1),[relP d.1,lenR d.1])⟩
theorem grp_ok:SpecOk Tryz.prog 39 grpS:=by
 refine fn_ok ES2_ok grpS Tryz.func39 rfl (by decide) (N:=63) rfl (res:=[.tmp 2]) rfl (by decide) [(13,[(46,.dt),(47,.ns)]),(15,[(54,.ns)]),(16,[(60,.ow)])] [] [15] 100 (by kernel_rfl) ?_
 rintro ⟨r,_⟩ hw hp
 refine ⟨rfl,fun H hH=>?_⟩
 dsimp only [go_sem] at hw hp ⊢
 obtain ⟨hp,hle,-⟩:=hp
 obtain ⟨s,l⟩:=r
 change List Tup at l
 obtain ⟨hp1,hp2,hp3⟩:=hp
 change l.length<=400 at hp2
 clear hw
 refine ⟨fun hc=>⟨by unfold grpB; rw [if_pos hc],trivial⟩,fun hc=>?_⟩
 have hgb:grpB (s,l)=(blkS (kfR (s,l)) l.length).2:=by unfold grpB; rw [if_neg (by rw [hc]; exact Bool.false_ne_true)]
 refine hH.hand (fun H hH hh=>?_) (by kernel_rfl)
 refine hH.loop (fun i:Nat=>⟨[(17,.dat (.int .i64) (i:Int)),(16,.dat (.int .i64) (l.length:Int)),(15,.dat (.slice tupT) l),(3,.sli 1 (blkS (kfR (s,l)) i).2.length),(4,.own 3),(1,.ref 0 0)],[(0,.box 30 (.cons (.dat .str s.1) (.cons (.dat .bool s.2.1) (.cons (.dat (.slice colT) s.2.2) (.cons (.dat (.slice tupT) l) .nil))))),(1,.nrow 22 false 2 none),(2,.bag 3 (.int .i64) (blkS (kfR (s,l)) i).2),(3,.row 51 (.slice valT) (blkS (kfR (s,l)) i).1)],4⟩) (fun i=>i<=l.length) (fun i=>l.length-i) 0 1 (Nat.zero_le _) ?_ ?_
 ·dsimp only [go_sem]
  and_intros<;>first|trivial|rfl|omega
 ·rintro i hi R hm
  refine hH.run 100 _ _ ?_
  dsimp only [go_sem]
  simp only [Int.toNat_natCast]
  have hkf:keyL s.2.2 (l.getD i (zd tupT)).1=kfR (s,l) i:=rfl
  simp only [hkf]
  have hbi:=blk_inv (kfR (s,l)) i
  have hst:blkS (kfR (s,l)) (i+1)=if (kfR (s,l) i).length=0 then (insL (blkS (kfR (s,l)) i).1 (blkS (kfR (s,l)) i).2.length [kfR (s,l) i],insL (blkS (kfR (s,l)) i).2 (blkS (kfR (s,l)) i).2.length [[(i:Int)]])
   else if hasK (blkS (kfR (s,l)) i).1 (kfR (s,l) i)=true then ((blkS (kfR (s,l)) i).1,(blkS (kfR (s,l)) i).2.set (posK (blkS (kfR (s,l)) i).1 (kfR (s,l) i)) ((blkS (kfR (s,l)) i).2.getD (posK (blkS (kfR (s,l)) i).1 (kfR (s,l) i)) []++[(i:Int)]))
   else (insL (blkS (kfR (s,l)) i).1 (posK (blkS (kfR (s,l)) i).1 (kfR (s,l) i)) [kfR (s,l) i],insL (blkS (kfR (s,l)) i).2 (posK (blkS (kfR (s,l)) i).1 (kfR (s,l) i)) [[(i:Int)]]):=rfl
  have hmon:(kfR (s,l) i).length≠0->i<l.length->monK (blkS (kfR (s,l)) i).1 (kfR (s,l) i):=fun e d=>srtK_mon (blk_srt (N:=l.length) (fun j hj=>by rw [kfR_len hle hj,<-kfR_len hle d]; exact e) i hi) _
  have hkl:∀ j,(kfR (s,l) j).length<=1000:=fun j=>keyL_len hp1
  have hK:∀ e∈(blkS (kfR (s,l)) i).1,e.length<=1000:=fun e he=>by
   obtain ⟨j,_,rfl⟩:=hbi.ke e he
   exact hkl j
  have hlen:=hbi.len
  have hble:=hbi.le
  have hel:=hbi.el
  have hpos:=posK_le (blkS (kfR (s,l)) i).1 (kfR (s,l) i)
  have hki:=hkl i
  have hfin:i=l.length->(blkS (kfR (s,l)) i).2=grpB (s,l):=fun e=>by rw [hgb,e]
  clear hbi hkf
  generalize blkS (kfR (s,l)) i=S at hst hmon hK hlen hble hel hpos hfin ⊢
  generalize hk:kfR (s,l) i=k at hst hmon hki hpos ⊢
  obtain ⟨K,B⟩:=S
  dsimp only at hst hmon hK hlen hble hel hpos hfin ⊢
  apply both1 (H:=H) (inv:=fun p:Nat=>⟨[(3,.sli 1 B.length),(4,.own 3),(8,.dat (.int .i64) (p:Int)),(5,.dat (.int .i64) (i:Int)),(7,.dat (.slice valT) k),(17,.dat (.int .i64) (i:Int)),(16,.dat (.int .i64) (l.length:Int)),(15,.dat (.slice tupT) l),(1,.ref 0 0)],[(0,.box 30 (.cons (.dat .str s.1) (.cons (.dat .bool s.2.1) (.cons (.dat (.slice colT) s.2.2) (.cons (.dat (.slice tupT) l) .nil))))),(1,.nrow 22 false 2 none),(2,.bag 3 (.int .i64) B),(3,.row 51 (.slice valT) K)],4⟩) (Q:=fun p=>p<=B.length/\i<l.length/\blkS (kfR (s,l)) (i+1)=(insL K p [k],insL B p [[(i:Int)]]))
  ·intro key
   refine ⟨fun d=>?_,fun d=>?_⟩<;>simp only [decide_eq_true_eq,decide_eq_false_iff_not] at d
   ·have d:i<l.length:=by omega
    have hb:(0:Int)<=(i:Int)/\(i:Int)<(l.length:Int):=by omega
    have hi1:inR .i64 ((i:Int)+1):=by rw [inR_i64]; omega
    have hKl:K.length<=1000:=by omega
    refine ⟨hb,hp1,fun e=>?_,fun e=>?_⟩<;>simp only [decide_eq_true_eq,decide_eq_false_iff_not] at e
    ·have e:k.length≠0:=by omega
     rw [if_neg e] at hst
     refine ⟨hKl,hK,hki,hmon e d,fun f=>?_,fun f=>?_⟩
     ·have hlt:posK K k<B.length:=by have:=(hasK_iff.1 f).1; omega
      have hb2:(0:Int)<=(posK K k:Int)/\(posK K k:Int)<(B.length:Int):=by omega
      have hbl:=(hel _ (getDm [] hlt)).2.1
      rw [if_pos f] at hst
      refine ⟨hb2,hlt,?_,trivial,hb2,⟨trivial,trivial⟩,hi1,hH.ren [(0,0),(1,1),(2,5),(3,3)] 4 rfl rfl (Nat.zero_le _) rfl ?_⟩
      ·show ((B.getD (posK K k) []).length+1)*8<=_
       omega
      ·dsimp only [go_sem]
       refine hm _ (i+1) 4 d (by omega) ?_
       dsimp only [go_sem]
       rw [hst]
       and_intros<;>first|trivial|rfl|omega|(simp only [List.length_set])
     ·rw [if_neg (by rw [f]; exact Bool.false_ne_true)] at hst
      refine hH.weak ⟨[(3,.sli 1 B.length),(4,.own 3),(8,.dat (.int .i64) (posK K k:Int)),(5,.dat (.int .i64) (i:Int)),(7,.dat (.slice valT) k),(17,.dat (.int .i64) (i:Int)),(16,.dat (.int .i64) (l.length:Int)),(15,.dat (.slice tupT) l),(1,.ref 0 0)],[(0,.box 30 (.cons (.dat .str s.1) (.cons (.dat .bool s.2.1) (.cons (.dat (.slice colT) s.2.2) (.cons (.dat (.slice tupT) l) .nil))))),(1,.nrow 22 false 2 none),(2,.bag 3 (.int .i64) B),(3,.row 51 (.slice valT) K)],4⟩ 4 ?_ (key (posK K k) ⟨by omega,d,hst⟩)
      dsimp only [go_sem]
      and_intros<;>first|trivial|rfl|omega
    ·have e:k.length=0:=by omega
     rw [if_pos e] at hst
     refine hH.weak ⟨[(3,.sli 1 B.length),(4,.own 3),(8,.dat (.int .i64) (B.length:Int)),(5,.dat (.int .i64) (i:Int)),(7,.dat (.slice valT) k),(17,.dat (.int .i64) (i:Int)),(16,.dat (.int .i64) (l.length:Int)),(15,.dat (.slice tupT) l),(1,.ref 0 0)],[(0,.box 30 (.cons (.dat .str s.1) (.cons (.dat .bool s.2.1) (.cons (.dat (.slice colT) s.2.2) (.cons (.dat (.slice tupT) l) .nil))))),(1,.nrow 22 false 2 none),(2,.bag 3 (.int .i64) B),(3,.row 51 (.slice valT) K)],4⟩ 4 ?_ (key B.length ⟨Nat.le_refl _,d,hst⟩)
     dsimp only [go_sem]
     and_intros<;>first|trivial|rfl|omega
   ·have d:i=l.length:=by omega
    exact ⟨hfin d,trivial⟩
  ·rintro p ⟨hpb,d,hst⟩
   refine nins_H hh (ann:=[(54,.ns)]) (pre:=[_,_,_,_,_]) (post:=[_]) (i:=p) rfl rfl rfl rfl (Nat.le_of_ble_eq_true rfl) Tryz.func79 rfl (by decide) insB_I rfl rfl rfl rfl rfl rfl rfl (Nat.ne_of_beq_eq_false rfl) (Nat.ne_of_beq_eq_false rfl) rfl ?_ rfl rfl hpb (by omega) ?_ ?_
   ·dsimp only [go_sem]
   ·dsimp only [go_sem]
   ·refine hH.run 100 _ _ ?_
    dsimp only [go_sem]
    have hi1:inR .i64 ((i:Int)+1):=by rw [inR_i64]; omega
    have hb:(0:Int)<=(p:Int)/\(p:Int)<=(K.length:Int)/\K.length<=1000000/\[k].length=1:=⟨by omega,by omega,by omega,rfl⟩
    refine ⟨hb,hi1,hH.ren [(0,0),(1,7),(2,8),(3,10)] 4 rfl rfl (Nat.zero_le _) rfl ?_⟩
    dsimp only [go_sem]
    refine hm _ (i+1) 4 d (by omega) ?_
    dsimp only [go_sem]
    rw [hst]
    simp only [insL_len,List.length_singleton,Int.toNat_natCast]
    and_intros<;>first|trivial|rfl|omega
end Go.Proofs.YtdobkkhncfifeacGreat.Gx
namespace Go.Proofs.YtdobkkhncfifeacGreat.Gx
open Go Go.RowKit Tw B Nt
set_option linter.unusedVariables false
set_option linter.unusedSimpArgs false
set_option maxHeartbeats 4000000
set_option maxRecDepth 20000
@[go_sem] noncomputable def ER8:Env:=(ES2).add 39 grpS
theorem ER8_ok:ER8.Ok:=(ES2_ok).add grp_ok
def scn (s:Sch) (l:List Tup) (i:Nat):Option Int :=
 if ckT s (l.getD i tz)≠0 then some (ckT s (l.getD i tz)) else if i=0 then none else if cT (l.getD (i-1) tz).1 (l.getD i tz).1=0 then some 8 else if cT (l.getD (i-1) tz).1 (l.getD i tz).1=1 then some 1 else none
def scL (s:Sch) (l:List Tup) (n:Nat):Option Int:=(List.range n).findSome? (scn s l)
def bigB (b:List Int):Bool:=decide (16<b.length)
def ovrB (l:List Tup) (b:List Int):Bool:=decide (sgQ (1-sumQ l b)<0)
def vldR (r:Rel):Int:=if !schOk r.1 then 1 else if 64<r.2.length then 4 else match scL r.1 r.2 r.2.length with
 | some e=>e
 | none=>if (grpB r).any bigB then 4 else if (grpB r).any (ovrB r.2) then 19 else 0
theorem scL_snoc (s:Sch) (l:List Tup) (n:Nat) (h:scL s l n=none):scL s l (n+1)=scn s l n:=by
 unfold scL at h ⊢
 rw [List.range_succ,List.findSome?_append,h]
 simp
theorem scL_at {s:Sch} {l:List Tup} {i n:Nat} {e:Int} (hi:i<n) (h:scL s l i=none) (he:scn s l i=some e):scL s l n=some e:=by
 have h1:=scL_snoc s l i h
 rw [he] at h1
 obtain ⟨m,rfl⟩:∃ m,n=i+1+m:=⟨n-(i+1),by omega⟩
 unfold scL at h1 ⊢
 rw [List.range_add,List.findSome?_append,h1]
 rfl
theorem scL_ok {s:Sch} {l:List Tup}:∀ {n:Nat},scL s l n=none->∀ i,i<n->scn s l i=none:=by
 intro n h i hi
 unfold scL at h
 rw [List.findSome?_eq_none_iff] at h
 exact h i (List.mem_range.2 hi)
theorem scn_ck {s:Sch} {l:List Tup} {i:Nat} (h:scn s l i=none):ckT s (l.getD i tz)=0:=by
 unfold scn at h
 by_cases e:ckT s (l.getD i tz)=0
 ·exact e
 ·rw [if_pos e] at h; cases h
theorem ckT_len {s:Sch} {t:Tup} (h:ckT s t=0):t.1.length=s.2.2.length:=by
 unfold ckT at h
 split at h
 ·cases h
 ·split at h
  ·cases h
  ·rename_i h2; exact Decidable.not_not.1 h2
theorem sc_len {s:Sch} {l:List Tup} (h:scL s l l.length=none):lenR (s,l):=by
 intro t ht
 obtain ⟨j,hj,e⟩:=List.mem_iff_getElem.1 ht
 have:=ckT_len (scn_ck (scL_ok h j hj))
 rw [List.getD_eq_getElem?_getD,List.getElem?_eq_getElem hj] at this
 rw [<-e]; exact this
theorem grpB_el (r:Rel):(grpB r).length<=r.2.length/\∀ b∈grpB r,b≠[]/\b.length<=r.2.length/\∀ j∈b,0<=j/\j<(r.2.length:Int):=by
 unfold grpB
 split
 ·exact ⟨Nat.zero_le _,fun b hb=>by cases hb⟩
 ·exact ⟨(blk_inv (kfR r) r.2.length).le,(blk_inv (kfR r) r.2.length).el⟩
theorem any_at {α:Type} {p:α->Bool} {l:List α} {i:Nat} (d:α) (hi:i<l.length) (h:p (l.getD i d)=true):l.any p=true:=List.any_eq_true.2 ⟨_,getDm d hi,h⟩
theorem any_no {α:Type} {p:α->Bool} {l:List α} (d:α) (h:∀ j,j<l.length->p (l.getD j d)=false):l.any p=false:=by
 rw [List.any_eq_false]
 intro x hx
 obtain ⟨j,hj,e⟩:=List.mem_iff_getElem.1 hx
 have:=h j hj
 rw [List.getD_eq_getElem?_getD,List.getElem?_eq_getElem hj] at this
 rw [<-e]
 exact fun h'=>Bool.noConfusion (this.symm.trans h')
theorem sumQ_qs {l:List Tup} {b:List Int} (hwl:∀ t∈l,wfD tupT t) (hf:∀ t∈l,fs t.2<=1000) (hb:∀ j∈b,0<=j/\j<(l.length:Int)) {n:Nat} (hl:b.length<=n):qs (sumQ l b)<=1002*n+1:=by
 have hfl:∀ f∈b.map (fun i=>(l.getD i.toNat tz).2),wfD fT f/\fs f<=1000:=by
  intro f hm
  obtain ⟨i,hi,rfl⟩:=List.mem_map.1 hm
  have hb:=hb i hi
  have hm:=getDm tz (show i.toNat<l.length by omega)
  exact ⟨(hwl _ hm).2,hf _ hm⟩
 have h:=(qs_bs (fun f hf=>(hfl f hf).1) (fun f hf=>(hfl f hf).2) b.length (by rw [List.length_map]; exact Nat.le_refl _)).1
 rw [List.take_of_length_le (by rw [List.length_map]; exact Nat.le_refl _)] at h
 unfold sumQ
 omega
@[go_sem] def vldS:Spec:=⟨[relT],fun d=>(.dat (.int .i64) (vldR d.1),[relP d.1])⟩
theorem vld_ok:SpecOk Tryz.prog 16 vldS:=by
 refine fn_ok ER8_ok vldS Tryz.func16 rfl (by decide) (N:=76) rfl (res:=[.tmp 2]) rfl (by decide) [] [] [] 100 (by kernel_rfl) ?_
 rintro ⟨r,_⟩ hw hp
 refine ⟨rfl,fun H hH=>?_⟩
 dsimp only [go_sem] at hw hp ⊢
 obtain ⟨hp,-⟩:=hp
 obtain ⟨s,l⟩:=r
 change List Tup at l
 obtain ⟨hp1,hp2,hp3⟩:=id hp
 change l.length<=400 at hp2
 have hwl:∀ t∈l,wfD tupT t:=hw.1.2.2
 clear hw
 refine ⟨fun h=>?_,fun h=>⟨fun h2=>?_,fun h2=>?_⟩⟩
 ·have h:schOk s=false:=by simpa using h
  exact ⟨by unfold vldR; rw [if_pos (by rw [h]; rfl)],trivial⟩
 ·have h:schOk s=true:=by simpa using h
  have h2:64<l.length:=by have:=of_decide_eq_true h2; change (64:Int)<(l.length:Int) at this; omega
  exact ⟨by unfold vldR; rw [if_neg (by rw [h]; exact Bool.false_ne_true),if_pos h2],trivial⟩
 have h:schOk s=true:=by simpa using h
 have h2:¬64<l.length:=by have:=of_decide_eq_false h2; change ¬(64:Int)<(l.length:Int) at this; omega
 have hv:vldR (s,l)=match scL s l l.length with
     | some e=>e
     | none=>if (grpB (s,l)).any bigB then 4 else if (grpB (s,l)).any (ovrB l) then 19 else 0:=by
  unfold vldR; rw [if_neg (by rw [h]; exact Bool.false_ne_true),if_neg h2]
 refine hH.loop (fun i:Nat=>⟨[(22,.dat (.int .i64) (i:Int)),(21,.dat (.int .i64) (l.length:Int)),(20,.dat (.slice tupT) l),(1,.ref 0 0)],[(0,.box 30 (.cons (.dat .str s.1) (.cons (.dat .bool s.2.1) (.cons (.dat (.slice colT) s.2.2) (.cons (.dat (.slice tupT) l) .nil)))))],1⟩) (fun i=>i<=l.length/\scL s l i=none) (fun i=>l.length-i) 0 1 ⟨Nat.zero_le _,rfl⟩ ?_ ?_
 ·dsimp only [go_sem]
  and_intros<;>first|trivial|rfl|omega
 ·rintro i ⟨hi,hn⟩ R hm
  refine hH.run 100 _ _ ?_
  dsimp only [go_sem]
  simp only [Int.toNat_natCast]
  have hzt:∀ j,l.getD j (zd tupT)=l.getD j tz:=fun _=>rfl
  simp only [hzt]
  refine ⟨fun d=>?_,fun d=>?_⟩<;>simp only [decide_eq_true_eq,decide_eq_false_iff_not] at d
  ·have d:i<l.length:=by omega
   have hb:(0:Int)<=(i:Int)/\(i:Int)<(l.length:Int):=by omega
   have hi1:inR .i64 ((i:Int)+1):=by rw [inR_i64]; omega
   have ht:(l.getD i tz).1.length<=1000/\fs (l.getD i tz).2<=1000:=hp3 _ (getDm tz d)
   have hsn:scn s l i=if ckT s (l.getD i tz)≠0 then some (ckT s (l.getD i tz)) else if i=0 then none else if cT (l.getD (i-1) tz).1 (l.getD i tz).1=0 then some 8 else if cT (l.getD (i-1) tz).1 (l.getD i tz).1=1 then some 1 else none:=rfl
   refine ⟨hb,by omega,fun e=>?_,fun e=>⟨fun e2=>?_,fun e2=>?_⟩⟩<;>simp only [decide_eq_true_eq,decide_eq_false_iff_not] at e
   ·rw [if_pos e] at hsn
    rw [hv,scL_at d hn hsn]
    exact ⟨rfl,trivial⟩
   ·have e2:=of_decide_eq_true e2
    have e2:i=0:=by omega
    rw [if_neg e,if_pos e2] at hsn
    refine ⟨hi1,?_⟩
    refine hm _ (i+1) 1 ⟨d,by rw [scL_snoc _ _ _ hn]; exact hsn⟩ (by omega) ?_
    dsimp only [go_sem]
    and_intros<;>first|trivial|rfl|omega
   ·have e2:=of_decide_eq_false e2
    have e2:i≠0:=by omega
    rw [if_neg e,if_neg e2] at hsn
    have hsub:((i:Int)-1).toNat=i-1:=by omega
    have hi0:inR .i64 ((i:Int)-1):=by rw [inR_i64]; omega
    have hb0:(0:Int)<=(i:Int)-1/\(i:Int)-1<(l.length:Int):=by omega
    have ht0:(l.getD (i-1) tz).1.length<=1000/\fs (l.getD (i-1) tz).2<=1000:=hp3 _ (getDm tz (show i-1<l.length by omega))
    have hpr:(l.getD (i-1) tz).1.length<=1000000/\(l.getD i tz).1.length<=1000000:=by omega
    rw [hsub]
    refine ⟨hi0,hb0,hpr,fun e3=>?_,fun e3=>⟨fun e4=>?_,fun e4=>?_⟩⟩
    ·have e3:=of_decide_eq_true e3
     rw [if_pos e3] at hsn
     rw [hv,scL_at d hn hsn]
     exact ⟨rfl,trivial⟩
    ·have e3:=of_decide_eq_false e3
     have e4:=of_decide_eq_true e4
     rw [if_neg e3,if_pos e4] at hsn
     rw [hv,scL_at d hn hsn]
     exact ⟨rfl,trivial⟩
    ·have e3:=of_decide_eq_false e3
     have e4:=of_decide_eq_false e4
     rw [if_neg e3,if_neg e4] at hsn
     refine ⟨hi1,?_⟩
     refine hm _ (i+1) 1 ⟨d,by rw [scL_snoc _ _ _ hn]; exact hsn⟩ (by omega) ?_
     dsimp only [go_sem]
     and_intros<;>first|trivial|rfl|omega
  ·have d:i=l.length:=by omega
   subst d
   clear hm
   refine ⟨hp,sc_len hn,?_⟩
   have hge:=grpB_el (s,l)
   rw [hn] at hv
   dsimp only at hv
   change (grpB (s,l)).length<=l.length/\∀ b∈grpB (s,l),b≠[]/\b.length<=l.length/\∀ j∈b,0<=j/\j<(l.length:Int) at hge
   generalize grpB (s,l)=G at hge hv ⊢
   obtain ⟨hg1,hg2⟩:=hge
   have hzg:∀ j,G.getD j (zd (.slice (.int .i64)))=G.getD j []:=fun _=>rfl
   refine hH.loop (fun k:Nat=>⟨[(55,.dat (.int .i64) (k:Int)),(54,.dat (.int .i64) (G.length:Int)),(53,.dat (.slice (.slice (.int .i64))) G),(6,.dat (.slice (.slice (.int .i64))) G),(1,.ref 0 0)],[(0,.box 30 (.cons (.dat .str s.1) (.cons (.dat .bool s.2.1) (.cons (.dat (.slice colT) s.2.2) (.cons (.dat (.slice tupT) l) .nil)))))],1⟩) (fun k=>k<=G.length/\∀ j,j<k->bigB (G.getD j [])=false) (fun k=>G.length-k) 0 1 ⟨Nat.zero_le _,fun j h=>absurd h (Nat.not_lt_zero _)⟩ ?_ ?_
   ·dsimp only [go_sem]
    and_intros<;>first|trivial|rfl|omega
   ·rintro k ⟨hk,hz⟩ R hm
    refine hH.run 100 _ _ ?_
    dsimp only [go_sem]
    simp only [Int.toNat_natCast,hzg]
    refine ⟨fun d=>?_,fun d=>?_⟩<;>simp only [decide_eq_true_eq,decide_eq_false_iff_not] at d
    ·have d:k<G.length:=by omega
     have hb:(0:Int)<=(k:Int)/\(k:Int)<(G.length:Int):=by omega
     have hi1:inR .i64 ((k:Int)+1):=by rw [inR_i64]; omega
     have hbe:bigB (G.getD k [])=decide (16<(G.getD k []).length):=rfl
     refine ⟨hb,fun e=>?_,fun e=>⟨hi1,hm _ (k+1) 1 ⟨d,fun j hj=>?_⟩ (by omega) ?_⟩⟩<;>simp only [decide_eq_true_eq,decide_eq_false_iff_not] at e
     ·have e:(16:Int)<((G.getD k []).length:Int):=e
      have hx:G.any bigB=true:=any_at [] d (by rw [hbe]; exact decide_eq_true (by omega))
      rw [hv,if_pos hx]
      exact ⟨rfl,trivial⟩
     ·rcases Nat.lt_or_ge j k with h'|h'
      ·exact hz j h'
      ·have:j=k:=by omega
       have e:¬(16:Int)<((G.getD k []).length:Int):=e
       rw [this,hbe]; exact decide_eq_false (by omega)
     ·dsimp only [go_sem]
      and_intros<;>first|trivial|rfl|omega
    ·have d:k=G.length:=by omega
     subst d
     rw [if_neg (by rw [any_no [] hz]; exact Bool.false_ne_true)] at hv
     clear hm hz
     refine hH.loop (fun k:Nat=>⟨[(65,.dat (.int .i64) (k:Int)),(64,.dat (.int .i64) (G.length:Int)),(63,.dat (.slice (.slice (.int .i64))) G),(1,.ref 0 0)],[(0,.box 30 (.cons (.dat .str s.1) (.cons (.dat .bool s.2.1) (.cons (.dat (.slice colT) s.2.2) (.cons (.dat (.slice tupT) l) .nil)))))],1⟩) (fun k=>k<=G.length/\∀ j,j<k->ovrB l (G.getD j [])=false) (fun k=>G.length-k) 0 1 ⟨Nat.zero_le _,fun j h=>absurd h (Nat.not_lt_zero _)⟩ ?_ ?_
     ·dsimp only [go_sem]
      and_intros<;>first|trivial|rfl|omega
     ·rintro k ⟨hk,hz⟩ R hm
      refine hH.run 100 _ _ ?_
      dsimp only [go_sem]
      simp only [Int.toNat_natCast,hzg,fq_qf,fs_qf]
      refine ⟨fun d=>?_,fun d=>?_⟩<;>simp only [decide_eq_true_eq,decide_eq_false_iff_not] at d
      ·have d:k<G.length:=by omega
       have hb:(0:Int)<=(k:Int)/\(k:Int)<(G.length:Int):=by omega
       have hi1:inR .i64 ((k:Int)+1):=by rw [inR_i64]; omega
       have hbe:ovrB l (G.getD k [])=decide (sgQ (1-sumQ l (G.getD k []))<0):=rfl
       obtain ⟨_,hl1,hl2⟩:=hg2 _ (getDm [] d)
       have q1:=sumQ_qs (n:=400) hwl (fun t ht=>(hp3 t ht).2) hl2 (by omega)
       have q2:=qs_sub 1 (sumQ l (G.getD k []))
       have q3:=qs_one
       have hl3:(G.getD k []).length<=400:=by omega
       refine ⟨hb,hp,hl3,hl2,by omega,by omega,fun e=>?_,fun e=>⟨hi1,hm _ (k+1) 1 ⟨d,fun j hj=>?_⟩ (by omega) ?_⟩⟩
       ·have hx:G.any (ovrB l)=true:=any_at [] d (by rw [hbe]; exact e)
        rw [hv,if_pos hx]
        exact ⟨rfl,trivial⟩
       ·rcases Nat.lt_or_ge j k with h'|h'
        ·exact hz j h'
        ·have:j=k:=by omega
         rw [this,hbe]; exact e
       ·dsimp only [go_sem]
        and_intros<;>first|trivial|rfl|omega
      ·have d:k=G.length:=by omega
       subst d
       rw [hv,if_neg (by rw [any_no [] hz]; exact Bool.false_ne_true)]
       exact ⟨rfl,trivial⟩
end Go.Proofs.YtdobkkhncfifeacGreat.Gx
namespace Go.Proofs.YtdobkkhncfifeacGreat.Gx
open Go Go.RowKit Tw B Nt
set_option linter.unusedVariables false
set_option linter.unusedSimpArgs false
set_option maxHeartbeats 4000000
set_option maxRecDepth 20000
@[go_sem] noncomputable def ER9:Env:=(ER8).add 16 vldS
theorem ER9_ok:ER9.Ok:=(ER8_ok).add vld_ok
def cnT (t:Tup):Tup:=(t.1,qf (fq t.2))
@[go_sem] noncomputable def ERA:Env:=ER9
theorem ERA_ok:ERA.Ok:=ER9_ok
@[go_sem] noncomputable def ERB:Env:=ERA
theorem ERB_ok:ERB.Ok:=ERA_ok
theorem scn_ne {s:Sch} {l:List Tup} {i:Nat} {e:Int} (h:scn s l i=some e):e≠0:=by
 unfold scn at h
 split at h
 ·rename_i h1
  cases h; exact h1
 ·split at h
  ·cases h
  ·split at h
   ·cases h; decide
   ·split at h
    ·cases h; decide
    ·cases h
theorem scL_ne {s:Sch} {l:List Tup} {n:Nat} {e:Int} (h:scL s l n=some e):e≠0:=by
 unfold scL at h
 obtain ⟨i,_,hi⟩:=List.exists_of_findSome?_eq_some h
 exact scn_ne hi
theorem vldR_zero {r:Rel} (h:vldR r=0):schOk r.1=true/\r.2.length<=64/\lenR r/\scL r.1 r.2 r.2.length=none/\(grpB r).any bigB=false/\(grpB r).any (ovrB r.2)=false:=by
 unfold vldR at h
 split at h
 ·cases h
 ·rename_i h1
  split at h
  ·cases h
  ·rename_i h2
   split at h
   ·rename_i e he
    exact absurd h (scL_ne he)
   ·rename_i he
    split at h
    ·cases h
    ·rename_i h3
     split at h
     ·cases h
     ·rename_i h4
      exact ⟨by simpa using h1,by omega,sc_len (s:=r.1) (l:=r.2) he,he,by simpa using h3,by simpa using h4⟩
@[go_sem] def blcS:Spec:=⟨[relT],fun d=>(.dat (.slice (.slice (.int .i64))) (if vldR d.1=0 then grpB d.1 else []),[relP d.1])⟩
theorem blc_ok:SpecOk Tryz.prog 17 blcS:=by
 refine fn_ok ERB_ok blcS Tryz.func17 rfl (by decide) (N:=8) rfl (res:=[.tmp 2]) rfl (by decide) [] [] [] 100 (by kernel_rfl) ?_
 rintro ⟨r,_⟩ hw hp
 refine ⟨rfl,fun H hH=>?_⟩
 dsimp only [go_sem] at hw hp ⊢
 obtain ⟨hp,-⟩:=hp
 refine ⟨hp,fun h=>?_,fun h=>⟨hp,?_,?_,trivial⟩⟩
 ·have h:vldR r≠0:=of_decide_eq_true h
  exact ⟨by rw [if_neg h],trivial⟩
 ·have h:¬vldR r≠0:=of_decide_eq_false h
  exact (vldR_zero (Decidable.not_not.1 h)).2.2.1
 ·have h:¬vldR r≠0:=of_decide_eq_false h
  rw [if_pos (Decidable.not_not.1 h)]
def blkR (r:Rel):List (List Int):=if vldR r=0 then grpB r else []
@[go_sem] noncomputable def ERC:Env:=(ERB).add 17 blcS
theorem ERC_ok:ERC.Ok:=(ERB_ok).add blc_ok
@[go_sem] noncomputable def ERD:Env:=ERC
theorem ERD_ok:ERD.Ok:=ERC_ok
end Go.Proofs.YtdobkkhncfifeacGreat.Gx
