/-
  V0, V1, in one text: see the remarks at the head of each part.
-/
import Derived.Test.YtdobkkhncfifeabGreatMDa
import Derived.Test.YtdobkkhncfifeabGreatShelf
import Derived.Lib.Bytealg
namespace Go.Proofs.YtdobkkhncfifeabGreat.Gx
open Go Go.RowKit Tw B Nt
set_option linter.unusedVariables false
@[reducible,go_sem] def valT:Ty:=.pair (.int .i64) (.pair (.int .i64) .str)
abbrev Str:=List UInt8
abbrev Val:=Int×Int×Str
theorem getDm {α:Type} {l:List α} {i:Nat} (d:α) (h:i<l.length):l.getD i d∈l:=by
 rw [List.getD_eq_getElem?_getD,List.getElem?_eq_getElem h]
 exact List.getElem_mem h
theorem take_snoc {α:Type} {l:List α} {i:Nat} (d:α) (h:i<l.length):l.take (i+1)=l.take i++[l.getD i d]:=by
 rw [List.take_add_one,List.getD_eq_getElem?_getD,List.getElem?_eq_getElem h]
 rfl
theorem mspec_of' {P:Program} {f:FuncId} {s:MSpec} {fn:Func} (hf:P.funcs[f]?=some fn) (hb:fn.body.isSome=true) (hn:(fn.name == "runtime.NumGoroutine")=false)
    (h:∀ d,AllP (s.F d).pre->∀ ρ0 X w vs,(∀ b,X b->b<w.heap.size)->Fr w X ρ0 0 ⟨[],mCks s.pks d 0,mNb s.pks⟩ ρ0 act0 w->m ρ0 (XX X ρ0 (mCks s.pks d 0)) w (mArgs s.pks d 0) vs ->
     Calls P f vs.toArray w (fun e w'=>∃ v ρ',e=.returned v/\Fr w X ρ0 0 ⟨[],(s.F d).ck,(s.F d).nx⟩ ρ' act0 w'/\m ρ' (XX X ρ' (s.F d).ck) w' (s.F d).out [v])):MSpecOk P f s :=
 fun d hd=>⟨fun args w=>callFunc_ok hf hb hn args w,h d hd⟩
theorem fr_row0 {X:Nat->Prop} {w w':World} {v:Value} {T:TypeId} {t:Ty} (hX:∀ b,X b->b<w.heap.size) (hb:Below w.heap.size w w') (ho:w'.ownsRow w.heap.size T t.size v 0 []) :
    Fr w X [] 0 ⟨[],[(0,.row T t [])],1⟩ [v] act0 w':=by
 have hblk:∀ b,inC [v] 0 b->w.heap.size<=b/\b<w'.heap.size:=by
  intro b e
  have e:blk v=some b:=own_inV ho e
  rcases ho.2 with ⟨rfl,_⟩|⟨g,cap,cur,rfl,h1,h2,_⟩
  ·cases e
  ·cases e; exact ⟨h1,heap_lt h2⟩
 refine ⟨rfl,rfl,⟨hb.os,hb.tape,hb.output,hb.size,fun k hk _=>hb.block k hk⟩,rfl,by simp,?_,?_,?_,?_,fun t x hx=>(by cases hx),⟨fun b hb=>(inB_nil hb).elim,Nat.zero_le _,fun x hx T l e hlt=>absurd hlt (Nat.not_lt_zero _)⟩⟩
 ·intro x hx
  rw [List.mem_singleton] at hx; subst hx; exact Nat.zero_lt_one
 ·intro x hx b e
  rw [List.mem_singleton] at hx; subst hx
  obtain ⟨h1,h2⟩:=hblk b e
  exact ⟨h2,.inl h1⟩
 ·intro x hx y hy hne
  rw [List.mem_singleton] at hx hy; subst hx; subst hy; exact absurd rfl hne
 ·intro x hx
  rw [List.mem_singleton] at hx; subst hx
  refine ⟨v,[],rfl,?_,(fun u hu=>by cases hu),(fun i x hx=>by cases hx)⟩
  refine ⟨ho.1,?_⟩
  rcases ho.2 with h|⟨g,cap,cur,e,h1,h2⟩
  ·exact .inl h
  ·exact .inr ⟨g,cap,cur,e,Nat.zero_le _,h2⟩
theorem nil_ρ' {w:World} {X:Nat->Prop} {ρ0:List Value} (h:Fr w X ρ0 0 ⟨[],[],0⟩ ρ0 act0 w):ρ0=[]:=List.length_eq_zero_iff.1 h.nx
end Go.Proofs.YtdobkkhncfifeabGreat.Gx
namespace Go.Proofs.YtdobkkhncfifeabGreat.Gx
open Go Go.RowKit Tw B Nt
set_option linter.unusedVariables false
set_option linter.unusedSimpArgs false
set_option maxHeartbeats 4000000
set_option maxRecDepth 20000
def cI (a b:Int):Int:=if a<b then -1 else if b<a then 1 else 0
def cB (a b:Str):Int:=Lib.compareBytes a b
def cV (a b:Val):Int:=if cI a.1 b.1≠0 then cI a.1 b.1 else if cI a.2.1 b.2.1≠0 then cI a.2.1 b.2.1 else cB a.2.2 b.2.2
def orL (l:List Int):Int:=(l.find? fun x=>decide (x≠0)).getD 0
@[go_sem] def nan1S:Spec:=⟨[.int .i64],fun d=>(.dat .bool false,[])⟩
theorem nan1_ok:SpecOk Tryz.prog 78 nan1S:=by
 refine fn_ok E3_ok nan1S Tryz.func78 rfl (by decide) (N:=6) rfl (res:=[.tmp 2]) rfl (by decide) [] [] [] 100 (by kernel_rfl) ?_
 rintro ⟨x,_⟩ hw hp
 refine ⟨rfl,fun H hH=>?_⟩
 dsimp only [go_sem] at hw hp ⊢
 simp
@[go_sem] def nan2S:Spec:=⟨[.int .i64],fun d=>(.dat .bool false,[])⟩
theorem nan2_ok:SpecOk Tryz.prog 79 nan2S:=by
 refine fn_ok E3_ok nan2S Tryz.func79 rfl (by decide) (N:=6) rfl (res:=[.tmp 2]) rfl (by decide) [] [] [] 100 (by kernel_rfl) ?_
 rintro ⟨x,_⟩ hw hp
 refine ⟨rfl,fun H hH=>?_⟩
 dsimp only [go_sem] at hw hp ⊢
 simp
@[go_sem] noncomputable def EV1:Env:=((E3).add 78 nan1S).add 79 nan2S
theorem EV1_ok:EV1.Ok:=((E3_ok).add nan1_ok).add nan2_ok
@[go_sem] def cmp1S:Spec:=⟨[.int .i64,.int .i64],fun d=>(.dat (.int .i64) (cI d.1 d.2.1),[])⟩
theorem cmp1_ok:SpecOk Tryz.prog 68 cmp1S:=by
 refine fn_ok EV1_ok cmp1S Tryz.func68 rfl (by decide) (N:=20) rfl (res:=[.tmp 4]) rfl (by decide) [] [] [] 100 (by kernel_rfl) ?_
 rintro ⟨(x:Int),(y:Int),_⟩ hw hp
 refine ⟨rfl,fun H hH=>?_⟩
 dsimp only [go_sem] at hw hp ⊢
 unfold cI
 refine ⟨fun h=>(by cases h),fun _=>⟨fun h=>(by cases h),fun _=>⟨fun h=>?_,fun h=>⟨fun h2=>?_,fun h2=>?_⟩⟩⟩⟩
 ·rw [if_pos (of_decide_eq_true h)]; exact ⟨rfl,trivial⟩
 ·rw [if_neg (of_decide_eq_false h),if_pos (of_decide_eq_true h2)]; exact ⟨rfl,trivial⟩
 ·rw [if_neg (of_decide_eq_false h),if_neg (of_decide_eq_false h2)]; exact ⟨rfl,trivial⟩
@[go_sem] def cmp2S:Spec:=⟨[.int .i64,.int .i64],fun d=>(.dat (.int .i64) (cI d.1 d.2.1),[])⟩
theorem cmp2_ok:SpecOk Tryz.prog 69 cmp2S:=by
 refine fn_ok EV1_ok cmp2S Tryz.func69 rfl (by decide) (N:=20) rfl (res:=[.tmp 4]) rfl (by decide) [] [] [] 100 (by kernel_rfl) ?_
 rintro ⟨(x:Int),(y:Int),_⟩ hw hp
 refine ⟨rfl,fun H hH=>?_⟩
 dsimp only [go_sem] at hw hp ⊢
 unfold cI
 refine ⟨fun h=>(by cases h),fun _=>⟨fun h=>(by cases h),fun _=>⟨fun h=>?_,fun h=>⟨fun h2=>?_,fun h2=>?_⟩⟩⟩⟩
 ·rw [if_pos (of_decide_eq_true h)]; exact ⟨rfl,trivial⟩
 ·rw [if_neg (of_decide_eq_false h),if_pos (of_decide_eq_true h2)]; exact ⟨rfl,trivial⟩
 ·rw [if_neg (of_decide_eq_false h),if_neg (of_decide_eq_false h2)]; exact ⟨rfl,trivial⟩
@[go_sem] def scpS:Spec:=⟨[.str,.str],fun d=>(.dat (.int .i64) (cB d.1 d.2.1),[])⟩
theorem cB_in:∀ a b:Str,-1<=cB a b/\cB a b<=1
 | [],[]=>by decide
 | [],_::_=>by unfold cB Lib.compareBytes; decide
 | _::_,[]=>by unfold cB Lib.compareBytes; decide
 | a::r,b::t=>by
  have:=cB_in r t
  unfold cB at this ⊢
  unfold Lib.compareBytes
  split
  ·decide
  ·split
   ·decide
   ·exact this
theorem scp_ok:SpecOk Tryz.prog 70 scpS:=by
 refine spec_of Tryz.func70 rfl (by decide) fun d hp ρ X w vs hX hm=>?_
 obtain ⟨a,b,u⟩:=d
 obtain ⟨x,y,rfl,⟨cx,⟨hx,_⟩,ex⟩,⟨cy,⟨hy,_⟩,ey⟩⟩:=args2 hm
 subst hx
 subst hy
 have ex:=(List.cons.inj ex).1
 have ey:=(List.cons.inj ey).1
 subst ex
 subst ey
 refine (Tryz.strings_Compare ⟨a.toArray⟩ ⟨b.toArray⟩ w).mono fun e w' ⟨he,hw⟩=>?_
 subst hw
 have hc:=cB_in a b
 refine ⟨.int .i64 (cB a b),by rw [he]; rfl,⟨[.int .i64 (cB a b)],⟨rfl,by show inR .i64 (cB a b); rw [inR_i64]; omega⟩,rfl⟩,Below.refl _ _⟩
@[go_sem] noncomputable def EV2:Env:=(((EV1).add 68 cmp1S).add 69 cmp2S).add 70 scpS
theorem EV2_ok:EV2.Ok:=(((EV1_ok).add cmp1_ok).add cmp2_ok).add scp_ok
theorem orL_at {l:List Int} {i:Nat} (hi:i<l.length) (h:l.getD i 0≠0) (h':∀ j,j<i->l.getD j 0=0):orL l=l.getD i 0:=by
 have e:l[i]?=some (l.getD i 0):=by rw [List.getD_eq_getElem?_getD,List.getElem?_eq_getElem hi]; rfl
 have:l.find? (fun x=>decide (x≠0))=some (l.getD i 0):=by
  rw [List.find?_eq_some_iff_getElem]
  refine ⟨decide_eq_true h,i,hi,?_,fun j hj=>?_⟩
  ·rw [List.getElem?_eq_getElem hi] at e; exact Option.some.inj e
  ·have:=h' j hj
   rw [List.getD_eq_getElem?_getD,List.getElem?_eq_getElem (by omega)] at this
   simp only [Option.getD_some] at this
   simp [this]
 unfold orL; rw [this]; rfl
theorem orL_none {l:List Int} (h:∀ j,j<l.length->l.getD j 0=0):orL l=0:=by
 have:l.find? (fun x=>decide (x≠0))=none:=by
  rw [List.find?_eq_none]
  intro x hx
  obtain ⟨i,hi,e⟩:=List.mem_iff_getElem.1 hx
  have:=h i hi
  rw [List.getD_eq_getElem?_getD,List.getElem?_eq_getElem hi] at this
  simp only [Option.getD_some] at this
  rw [<-e,this]; decide
 unfold orL; rw [this]; rfl
@[go_sem] def orIS:Spec:=⟨[.slice (.int .i64)],fun d=>(.dat (.int .i64) (orL d.1),[List.length d.1<=1000])⟩
theorem orI_ok:SpecOk Tryz.prog 67 orIS:=by
 refine fn_ok EV2_ok orIS Tryz.func67 rfl (by decide) (N:=18) rfl (res:=[.tmp 2]) rfl (by decide) [] [] [] 100 (by kernel_rfl) ?_
 rintro ⟨l,_⟩ hw hp
 refine ⟨rfl,fun H hH=>?_⟩
 dsimp only [go_sem] at hw hp ⊢
 obtain ⟨hp,-⟩:=hp
 clear hw
 change List Int at l
 change l.length<=1000 at hp
 have hz0:zd (.int .i64)=(0:Int):=rfl
 refine hH.loop (fun i:Nat=>⟨[(8,.dat (.int .i64) (i:Int)),(7,.dat (.int .i64) (List.length l:Int)),(6,.dat (.slice (.int .i64)) l),(3,.dat (.int .i64) (0:Int))],[],0⟩) (fun i=>i<=l.length/\∀ j,j<i->l.getD j 0=0) (fun i=>l.length-i) 0 0 ⟨Nat.zero_le _,fun j h=>absurd h (Nat.not_lt_zero _)⟩ ?_ ?_
 ·dsimp only [go_sem]
  and_intros<;>first|trivial|rfl|omega
 ·rintro i ⟨hi,hz⟩ R hm
  refine hH.run 100 _ _ ?_
  dsimp only [go_sem]
  simp only [Int.toNat_natCast,hz0]
  refine ⟨fun d=>?_,fun d=>?_⟩<;>simp only [decide_eq_true_eq,decide_eq_false_iff_not] at d
  ·have d:i<l.length:=by omega
   refine ⟨⟨Int.natCast_nonneg _,Int.ofNat_lt.2 d⟩,fun e=>?_,fun e=>?_⟩<;>simp only [decide_eq_true_eq,decide_eq_false_iff_not,Decidable.not_not] at e
   ·exact ⟨(orL_at d e hz).symm,trivial⟩
   ·refine ⟨by rw [inR_i64]; omega,hm _ (i+1) 0 ⟨d,fun j hj=>?_⟩ (by omega) ?_⟩
    ·rcases Nat.lt_or_ge j i with h|h
     ·exact hz j h
     ·have:j=i:=by omega
      rw [this]; exact e
    ·dsimp only [go_sem]
     and_intros<;>first|trivial|rfl|omega
  ·have d:i=l.length:=by omega
   subst d
   exact ⟨(orL_none hz).symm,trivial⟩
@[go_sem] noncomputable def EV3:Env:=(EV2).add 67 orIS
theorem EV3_ok:EV3.Ok:=(EV2_ok).add orI_ok
@[go_sem] def vcpM:MSpec:=⟨[.d valT,.d valT],fun d=>⟨[],0,.dat (.int .i64) (cV d.1 d.2.1),[]⟩⟩
theorem orL_V (a b:Val):orL [cI a.1 b.1,cI a.2.1 b.2.1,cB a.2.2 b.2.2]=cV a b:=by
 unfold orL cV
 simp only [List.find?_cons,List.find?_nil]
 by_cases h1:cI a.1 b.1=0
 ·by_cases h2:cI a.2.1 b.2.1=0
  ·by_cases h3:cB a.2.2 b.2.2=0<;>simp [h1,h2,h3]
  ·simp [h1,h2]
 ·simp [h1]
theorem vcpM_ok:MSpecOk Tryz.prog 50 vcpM:=by
 refine fnM_ok EV3_ok vcpM Tryz.func50 rfl (by decide) (N:=22) rfl (res:=[.tmp 4]) rfl (by decide) [(1,[(20,.dt)])] [] [] 100 (by kernel_rfl) ?_
 rintro ⟨a,b,_⟩ hw hp H hH
 dsimp only [go_sem] at hw hp ⊢
 refine ⟨Nat.le_of_ble_eq_true rfl,?_⟩
 rw [orL_V]
 and_intros<;>first|trivial|rfl
@[go_sem] noncomputable def EV4:Env:=(EV3).addM 50 vcpM
@[go_sem] noncomputable def EV5:Env:=EV4
end Go.Proofs.YtdobkkhncfifeabGreat.Gx
