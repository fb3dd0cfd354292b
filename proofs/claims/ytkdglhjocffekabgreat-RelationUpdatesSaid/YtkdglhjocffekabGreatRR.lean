/-
  RelationUpdates.
-/
import Derived.Test.YtkdglhjocffekabGreatRQ
import Derived.Test.YtkdglhjocffekabGreatSh
namespace Go.Proofs.YtkdglhjocffekabGreat.Gx
open Go Go.RowKit Tw B Nt
set_option linter.unusedVariables false
set_option linter.unusedSimpArgs false
set_option maxHeartbeats 4000000
set_option maxRecDepth 20000
@[reducible,go_sem] def opU:Ty:=.pair (.int .u8) (.pair (.int .i64) (.int .i64))
abbrev Upd:=Int×Int×Int
theorem and3 (x:Int):bitsI .and .u8 x 3=0∨bitsI .and .u8 x 3=1∨bitsI .and .u8 x 3=2∨bitsI .and .u8 x 3=3:=by
 have h1:(BitVec.ofInt 8 x &&& BitVec.ofInt 8 3).toNat<4:=by
  rw [BitVec.toNat_and]
  have h2:(BitVec.ofInt 8 3).toNat=2 ^ 2-1:=by decide
  rw [h2,Nat.and_two_pow_sub_one_eq_mod]
  exact Nat.mod_lt _ (by decide)
 have e:bitsI .and .u8 x 3=IntKind.u8.wrap (BitVec.ofInt 8 x &&& BitVec.ofInt 8 3).toNat:=rfl
 generalize (BitVec.ofInt 8 x &&& BitVec.ofInt 8 3).toNat=k at h1 e
 rw [e]
 have:k=0∨k=1∨k=2∨k=3:=by omega
 rcases this with rfl|rfl|rfl|rfl<;>decide
def upL (n:Nat) (L:List Tup):Prop:=L.length<=n/\∀ t∈L,cnT t=t/\t.1.length<=2/\fs t.2<=64
theorem upL_P {s:Sch} (hs:s.2.2.length<=2) {n:Nat} (hn:n<=30) {L:List Tup} (h:upL n L):relP (s,L) :=
 ⟨(show s.2.2.length<=1000 by omega),(show L.length<=400 by have:=h.1; omega),fun t ht=>by have:=h.2 t ht; omega⟩
theorem rz_P:relP rz:=by unfold relP; decide +kernel
theorem cn_of {t:Tup} {q:Rat} (h:t.2=qf q):cnT t=t:=by
 obtain ⟨v,f⟩:=t
 dsimp only at h
 subst h
 unfold cnT
 rw [fq_qf]
def upQ (s:Sch) (n:Nat) (x:Rel×Int):Prop:=relP x.1/\(x.2=0->∃ L,x.1=(s,L)/\upL n L)
theorem up_ins {s:Sch} (hs:s.2.2.length<=2) {n:Nat} (hn:n<30) {L:List Tup} {t:Tup} (h:upL n L) (ht:cnT t=t/\t.1.length<=2/\fs t.2<=64):upQ s (n+1) (insR (s,L) t,insE (s,L) t):=by
 by_cases he:insE (s,L) t=0
 ·have hr:=insR_ok he (fun u hu=>(h.2 u hu).1) ht.1
  have hu:upL (n+1) (insT L t):=⟨by rw [insT_len]; have:=h.1; omega,fun u hu=>by
   rcases insT_mem.1 hu with rfl|hu
   ·exact ht
   ·exact h.2 u hu⟩
  exact ⟨by rw [hr]; exact upL_P hs (by omega) hu,fun _=>⟨_,hr,hu⟩⟩
 ·exact ⟨by rw [<-insR_err rfl he]; exact rz_P,fun e=>absurd e he⟩
theorem up_del {s:Sch} (hs:s.2.2.length<=2) {n:Nat} (hn:n<30) {L:List Tup} {v:List Val} (h:upL n L):upQ s (n+1) (dlR (s,L) v,dlE (s,L) v):=by
 by_cases he:dlE (s,L) v=0
 ·have hsub:(delT L (fdR (L.findIdx? (eqV v))).1.toNat).Sublist L:=by
    rcases Nat.lt_or_ge (fdR (L.findIdx? (eqV v))).1.toNat L.length with h'|h'
    ·exact del_sub h'
    ·unfold delT
     rw [List.drop_of_length_le (by omega),List.append_nil]
     exact List.take_sublist _ _
  have hr:dlR (s,L) v=(s,delT L (fdR (L.findIdx? (eqV v))).1.toNat):=by
   unfold dlR
   rw [if_neg (fun e=>e he)]
   exact congrArg (Prod.mk s) (map_cn fun u hu=>(h.2 u (hsub.subset hu)).1)
  have hu:upL (n+1) (delT L (fdR (L.findIdx? (eqV v))).1.toNat):=⟨by have:=hsub.length_le; have:=h.1; omega,fun u hu=>h.2 u (hsub.subset hu)⟩
  exact ⟨by rw [hr]; exact upL_P hs (by omega) hu,fun _=>⟨_,hr,hu⟩⟩
 ·exact ⟨by rw [<-dlR_err rfl he]; exact rz_P,fun e=>absurd e he⟩
theorem up_set {s:Sch} (hs:s.2.2.length<=2) {n:Nat} (hn:n<30) {L:List Tup} {v:List Val} {q:Rat} (hq:qs q<=64) (h:upL n L):upQ s (n+1) (stR (s,L) v (qf q),stE (s,L) v (qf q)):=by
 by_cases he:stE (s,L) v (qf q)=0
 ·have hel:∀ u∈stL L (fdR (L.findIdx? (eqV v))).1.toNat (qf q),cnT u=u/\u.1.length<=2/\fs u.2<=64:=fun u hu=>by
    unfold stL at hu
    rcases Nat.lt_or_ge (fdR (L.findIdx? (eqV v))).1.toNat L.length with h'|h'
    ·rcases List.mem_or_eq_of_mem_set hu with hu|rfl
     ·exact h.2 u hu
     ·exact ⟨cn_of rfl,(h.2 _ (getDm tz h')).2.1,by rw [fs_qf]; exact hq⟩
    ·rw [List.set_eq_of_length_le h'] at hu
     exact h.2 u hu
  have hr:stR (s,L) v (qf q)=(s,stL L (fdR (L.findIdx? (eqV v))).1.toNat (qf q)):=by
   unfold stR
   rw [if_neg (fun e=>e he)]
   exact congrArg (Prod.mk s) (map_cn fun u hu=>(hel u hu).1)
  have hu:upL (n+1) (stL L (fdR (L.findIdx? (eqV v))).1.toNat (qf q)):=⟨by unfold stL; rw [List.length_set]; have:=h.1; omega,hel⟩
  exact ⟨by rw [hr]; exact upL_P hs (by omega) hu,fun _=>⟨_,hr,hu⟩⟩
 ·exact ⟨by rw [<-stR_err rfl he]; exact rz_P,fun e=>absurd e he⟩
@[go_sem] noncomputable def EU2:Env:=((EU1).add 8 rdltS).add 12 rsetS
theorem EU2_ok:EU2.Ok:=((EU1_ok).add rdlt_ok).add rset_ok
@[go_sem] def lUpS:Spec:=⟨[.slice opU,.int .u8],fun d=>(.dat .bool true,[])⟩
theorem lUp_ok:SpecOk Tryz.prog 3 lUpS:=by
 refine fn_ok EU2_ok lUpS Tryz.func3 rfl (by decide) (N:=162) rfl (res:=[.tmp 4]) rfl (by decide) [(3,[(21,.dt),(28,.ag)])] [] [10,24] 100 (by kernel_rfl) ?_
 rintro ⟨(l:List Upd),(kind:Int),_⟩ hw hp
 refine ⟨rfl,fun H hH=>?_⟩
 dsimp only [go_sem] at hw hp ⊢
 change List Upd at l
 obtain ⟨⟨hll,hli⟩,hki,-⟩:=hw
 have hl8:∀ u∈l,inR .u8 u.1:=fun u hu=>(hli u hu).1
 refine ⟨fun _=>⟨rfl,trivial⟩,fun hlen=>?_⟩
 have hlen:l.length<=24:=by
  have h:¬(24:Int)<(l.length:Int):=of_decide_eq_false hlen
  omega
 have hk:=and3 kind
 obtain ⟨i0,hi0,hix⟩:∃ i0:Nat,i0<4/\([0,2,3,2]:List Int).getD (bitsI .and .u8 kind 3).toNat (zd (.int .i64))=(i0:Int):=by
  rcases hk with e|e|e|e<;>rw [e]
  ·exact ⟨0,by decide,rfl⟩
  ·exact ⟨2,by decide,rfl⟩
  ·exact ⟨3,by decide,rfl⟩
  ·exact ⟨2,by decide,rfl⟩
 have hb1:(0:Int)<=bitsI .and .u8 kind 3/\bitsI .and .u8 kind 3<(([0,2,3,2]:List Int).length:Int):=by
  show _/\_<(4:Int)
  omega
 have hl4:schs.length=4:=rfl
 have hsl:=(schI_ok hi0).2
 have hsc:schs.getD (([0,2,3,2]:List Int).getD (bitsI .and .u8 kind 3).toNat (zd (.int .i64))).toNat (zd schT)=schI i0:=by
  rw [hix,Int.toNat_natCast]; rfl
 generalize schI i0=s at hsl hsc
 simp only [hsc]
 refine ⟨hb1,by rw [hix]; show (0:Int)<=(i0:Int)/\(i0:Int)<(schs.length:Int); omega,?_⟩
 refine hH.loop (fun x:Nat×List Tup=>⟨[(6,.dat (.int .i64) (x.1:Int)),(5,.ref 0 0),(0,.dat (.slice opU) l)],[(0,.box 31 (relA (s,x.2)))],1⟩) (fun x=>x.1<=l.length/\upL x.1 x.2) (fun x=>l.length-x.1) (0,[]) 1 ⟨Nat.zero_le _,Nat.zero_le _,fun t ht=>by cases ht⟩ ?_ ?_
 ·dsimp only [go_sem,relA]
  and_intros<;>first|trivial|rfl|omega
 ·rintro ⟨i,L⟩ ⟨hi,hL⟩ R hm
  dsimp only at hi hL hm
  dsimp only [relA]
  refine hH.run 200 _ _ ?_
  dsimp only [go_sem]
  simp only [Int.toNat_natCast,imp_self,true_and,imp4]
  have hzu:l.getD i (zd opU)=l.getD i (0,0,0):=rfl
  simp only [hzu]
  have hx:=tup9_le (l.getD i (0,0,0)).2.1
  have hxc:=cn_tupA (l.getD i (0,0,0)).2.1
  refine ⟨fun d=>?_,fun d=>?_⟩
  ·have d:i<l.length:=by
     have d:(i:Int)<(l.length:Int):=of_decide_eq_true d
     omega
   have hb:(0:Int)<=(i:Int)/\(i:Int)<(l.length:Int):=by omega
   have hop0:=hl8 _ (getDm (0,0,0) d)
   obtain ⟨op,hop⟩:∃ op,l.getD i (0,0,0)=op:=⟨_,rfl⟩
   simp only [hop] at hx hxc hop0 ⊢
   refine ⟨hb,fun _=>hb,?_⟩
   apply both3 (H:=H) (inv:=fun T:Tup=>⟨[(7,.ref 1 0),(6,.dat (.int .i64) (i:Int)),(5,.ref 0 0),(0,.dat (.slice opU) l)],[(0,.box 31 (relA (s,L))),(1,.box 38 (.cons (.dat (.slice valT) T.1) (.cons (.dat .bool T.2.1) (.cons (.dat (.slice (.int .u32)) T.2.2.1) (.cons (.dat (.slice (.int .u32)) T.2.2.2) .nil)))))],2⟩) (Q:=fun T=>cnT T=T/\T.1.length<=2/\fs T.2<=64)
   ·intro key
    refine ⟨fun e=>HOk.weak (by assumption) _ 2 ?_ (key ((tup9 op.2.1).1,qf 1) ⟨cn_of rfl,hx.1,(by decide +kernel:fs (qf 1)<=64)⟩),fun e=>HOk.weak (by assumption) _ 2 ?_ (key (tup9 op.2.1) ⟨hxc,hx.1,hx.2⟩)⟩
    ·dsimp only [go_sem,relA]
     and_intros<;>first|trivial|rfl|omega
    ·dsimp only [go_sem,relA]
     and_intros<;>first|trivial|rfl|omega
   ·rintro T hT
    clear hx hxc
    dsimp only [relA]
    refine HOk.go (by assumption) [24] 200 _ _ ?_
    dsimp only [go_sem]
    simp only [Int.toNat_natCast,hzu,hop]
    have hLP:relP (s,L):=upL_P hsl (show i<=30 by omega) hL
    obtain ⟨hT0,hT1,hT2⟩:=hT
    have hTl:T.1.length<=1000:=by omega
    have hTf:fs T.2<=1000:=by omega
    have hpq:=(bpr_b op.2.2).1
    have hfq:=qs_le (bfr_b (shrI .i64 op.2.2 7))
    have hpf:fs (qf (bpr op.2.2))<=1000:=by rw [fs_qf]; omega
    have hff:fs (qf (bfr (shrI .i64 op.2.2 7)))<=1000:=by rw [fs_qf]; omega
    have h6:inR .u8 (Int.tmod op.1 6):=by
     have h7:0<=op.1:=hop0.1
     have h8:op.1<=255:=hop0.2
     rw [Int.tmod_eq_emod_of_nonneg h7]
     have h9:=Int.emod_nonneg op.1 (show (6:Int)≠0 by decide)
     have h10:=Int.emod_lt_of_pos op.1 (show (0:Int)<6 by decide)
     exact ⟨h9,(show op.1 % 6<=255 by omega)⟩
    apply both3 (H:=H) (inv:=fun x:Rel×Int=>⟨[(11,.dat (.int .i64) x.2),(10,.dat (.int .i64) x.2),(9,.ref 3 0),(8,.ref 2 0),(7,.ref 1 0),(6,.dat (.int .i64) (i:Int)),(5,.ref 0 0),(0,.dat (.slice opU) l)],[(0,.box 31 (relA (s,L))),(1,.box 38 (.cons (.dat (.slice valT) T.1) (.cons (.dat .bool T.2.1) (.cons (.dat (.slice (.int .u32)) T.2.2.1) (.cons (.dat (.slice (.int .u32)) T.2.2.2) .nil))))),(2,.box 31 (relA x.1)),(3,.box 31 (relA x.1))],4⟩) (Q:=fun x=>upQ s (i+1) x)
    ·intro key
     refine ⟨hb,by decide,h6,fun e4=>⟨hLP,hTl,hLP,hTl,HOk.weak (by assumption) _ 4 ?_ (key (dlR (s,L) T.1,dlE (s,L) T.1) (up_del hsl (by omega) hL))⟩,fun e4=>⟨fun e5=>⟨hb,hb,fun e6=>⟨hb,by decide,hLP,hTl,hff,hLP,hTl,hff,HOk.weak (by assumption) _ 4 ?_ (key (stR (s,L) T.1 (qf (bfr (shrI .i64 op.2.2 7))),stE (s,L) T.1 (qf (bfr (shrI .i64 op.2.2 7)))) (up_set hsl (by omega) (by omega) hL))⟩,fun e6=>⟨hLP,hTl,hpf,hLP,hTl,hpf,HOk.weak (by assumption) _ 4 ?_ (key (stR (s,L) T.1 (qf (bpr op.2.2)),stE (s,L) T.1 (qf (bpr op.2.2))) (up_set hsl (by omega) (by omega) hL))⟩⟩,fun e5=>⟨hLP,⟨hTl,hTf⟩,hLP,⟨hTl,hTf⟩,HOk.weak (by assumption) _ 4 ?_ (key (insR (s,L) T,insE (s,L) T) (up_ins hsl (by omega) hL ⟨hT0,hT1,hT2⟩))⟩⟩⟩
     ·dsimp only [go_sem,relA]
      and_intros<;>first|trivial|rfl|omega
     ·dsimp only [go_sem,relA]
      and_intros<;>first|trivial|rfl|omega
     ·dsimp only [go_sem,relA]
      and_intros<;>first|trivial|rfl|omega
     ·dsimp only [go_sem,relA]
      and_intros<;>first|trivial|rfl|omega
    ·rintro ⟨r,e⟩ ⟨hr1,hr2⟩
     dsimp only at hr1 hr2
     dsimp only [relA]
     refine HOk.go (by assumption) [] 200 _ _ ?_
     dsimp only [go_sem]
     have hE:∀ r:Rel,relE r r=true:=fun r=>relE_t rfl
     have hrr:(((r.1.1,r.1.2.1,r.1.2.2),r.2):Rel)=r:=rfl
     simp only [hE,ne_eq,not_true_eq_false,decide_false,decide_true,Bool.not_true,Bool.or_false,imp_self,true_and,forall_const,and_true,imp4]
     have hi1:inR .i64 ((i:Int)+1):=by rw [inR_i64]; omega
     refine ⟨hr1,hr1,fun f=>?_,fun f=>?_⟩
     ·have f:e=0:=of_decide_eq_true f
      obtain ⟨L',rfl,hL'⟩:=hr2 f
      refine ⟨hr1,hTl,hr1,hTl,hi1,hm _ (i+1,L') 1 ⟨d,hL'⟩ (show l.length-(i+1)<l.length-i by omega) ?_⟩
      dsimp only [go_sem,relA]
      and_intros<;>first|trivial|rfl|omega
     ·refine ⟨hLP,hTl,hLP,hTl,hi1,hm _ (i+1,L) 1 ⟨d,Nat.le_succ_of_le hL.1,hL.2⟩ (show l.length-(i+1)<l.length-i by omega) ?_⟩
      dsimp only [go_sem,relA]
      and_intros<;>first|trivial|rfl|omega
  ·trivial
theorem opUSh:Sh Tryz.prog (.slice opU) (.inl 22) :=
 .slice Tryz.underlying22 (by kernel_rfl) (.pair Tryz.underlying41 (by kernel_rfl) (.more rfl (by kernel_rfl) (.int Tryz.underlying5) (.more rfl (by kernel_rfl) (.int Tryz.underlying3) (.last rfl (by kernel_rfl) (.int Tryz.underlying3)))))
end Go.Proofs.YtkdglhjocffekabGreat.Gx
