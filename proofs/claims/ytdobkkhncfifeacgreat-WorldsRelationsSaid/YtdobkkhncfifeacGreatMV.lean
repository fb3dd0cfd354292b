/-
  V0, V1, in one text: see the remarks at the head of each part.
-/
import Derived.Test.YtdobkkhncfifeacGreatMDa
import Derived.Test.YtdobkkhncfifeacGreatShelf
import Derived.Lib.Bytealg
namespace Go.Proofs.YtdobkkhncfifeacGreat.Gx
open Go Go.RowKit Tw B Nt
set_option linter.unusedVariables false
@[reducible,go_sem] def valT:Ty:=.pair (.int .i64) (.pair (.int .i64) .str)
abbrev Str:=List UInt8
abbrev Val:=Int×Int×Str
theorem getDm {α:Type} {l:List α} {i:Nat} (d:α) (h:i<l.length):l.getD i d∈l:=by
 rw [List.getD_eq_getElem?_getD,List.getElem?_eq_getElem h]
 exact List.getElem_mem h
theorem take_snoc {α:Type} {l:List α} {i:Nat} (d:α) (h:i<l.length):l.take (i+1)=l.take i++[l.getD i d]:=by
 rw [List.take_add_one,List.getD_eq_getElem?_getD,List.getElem?_eq_getElem h]
 rfl
theorem imp3 (a b:Prop):(a->b->a/\b)↔True:=iff_true_intro fun h1 h2=>⟨h1,h2⟩
theorem mspec_of' {P:Program} {f:FuncId} {s:MSpec} {fn:Func} (hf:P.funcs[f]?=some fn) (hb:fn.body.isSome=true) (hn:(fn.name == "runtime.NumGoroutine")=false)
    (h:∀ d,AllP (s.F d).pre->∀ ρ0 X w vs,(∀ b,X b->b<w.heap.size)->Fr w X ρ0 0 ⟨[],mCks s.pks d 0,mNb s.pks⟩ ρ0 act0 w->m ρ0 (XX X ρ0 (mCks s.pks d 0)) w (mArgs s.pks d 0) vs ->
     Calls P f vs.toArray w (fun e w'=>∃ v ρ',e=.returned v/\Fr w X ρ0 0 ⟨[],(s.F d).ck,(s.F d).nx⟩ ρ' act0 w'/\m ρ' (XX X ρ' (s.F d).ck) w' (s.F d).out [v])):MSpecOk P f s :=
 fun d hd=>⟨fun args w=>callFunc_ok hf hb hn args w,h d hd⟩
end Go.Proofs.YtdobkkhncfifeacGreat.Gx
namespace Go.Proofs.YtdobkkhncfifeacGreat.Gx
open Go Go.RowKit Tw B Nt
set_option linter.unusedVariables false
set_option linter.unusedSimpArgs false
set_option maxHeartbeats 4000000
set_option maxRecDepth 20000
def cI (a b:Int):Int:=if a<b then -1 else if b<a then 1 else 0
def cB (a b:Str):Int:=Lib.compareBytes a b
def cV (a b:Val):Int:=if cI a.1 b.1≠0 then cI a.1 b.1 else if cI a.2.1 b.2.1≠0 then cI a.2.1 b.2.1 else cB a.2.2 b.2.2
def cT:List Val->List Val->Int
 | [],[]=>0
 | [],_::_ => -1
 | _::_,[]=>1
 | a::l,b::m=>if cV a b≠0 then cV a b else cT l m
def orL (l:List Int):Int:=(l.find? fun x=>decide (x≠0)).getD 0
@[go_sem] def nan1S:Spec:=⟨[.int .i64],fun d=>(.dat .bool false,[])⟩
theorem nan1_ok:SpecOk Tryz.prog 123 nan1S:=by
 refine fn_ok E3_ok nan1S Tryz.func123 rfl (by decide) (N:=6) rfl (res:=[.tmp 2]) rfl (by decide) [] [] [] 100 (by kernel_rfl) ?_
 rintro ⟨x,_⟩ hw hp
 refine ⟨rfl,fun H hH=>?_⟩
 dsimp only [go_sem] at hw hp ⊢
 simp
@[go_sem] def nan2S:Spec:=⟨[.int .i64],fun d=>(.dat .bool false,[])⟩
theorem nan2_ok:SpecOk Tryz.prog 124 nan2S:=by
 refine fn_ok E3_ok nan2S Tryz.func124 rfl (by decide) (N:=6) rfl (res:=[.tmp 2]) rfl (by decide) [] [] [] 100 (by kernel_rfl) ?_
 rintro ⟨x,_⟩ hw hp
 refine ⟨rfl,fun H hH=>?_⟩
 dsimp only [go_sem] at hw hp ⊢
 simp
@[go_sem] noncomputable def EV1:Env:=((E3).add 123 nan1S).add 124 nan2S
theorem EV1_ok:EV1.Ok:=((E3_ok).add nan1_ok).add nan2_ok
@[go_sem] def cmp1S:Spec:=⟨[.int .i64,.int .i64],fun d=>(.dat (.int .i64) (cI d.1 d.2.1),[])⟩
theorem cmp1_ok:SpecOk Tryz.prog 102 cmp1S:=by
 refine fn_ok EV1_ok cmp1S Tryz.func102 rfl (by decide) (N:=20) rfl (res:=[.tmp 4]) rfl (by decide) [] [] [] 100 (by kernel_rfl) ?_
 rintro ⟨(x:Int),(y:Int),_⟩ hw hp
 refine ⟨rfl,fun H hH=>?_⟩
 dsimp only [go_sem] at hw hp ⊢
 unfold cI
 refine ⟨fun h=>(by cases h),fun _=>⟨fun h=>(by cases h),fun _=>⟨fun h=>?_,fun h=>⟨fun h2=>?_,fun h2=>?_⟩⟩⟩⟩
 ·rw [if_pos (of_decide_eq_true h)]; exact ⟨rfl,trivial⟩
 ·rw [if_neg (of_decide_eq_false h),if_pos (of_decide_eq_true h2)]; exact ⟨rfl,trivial⟩
 ·rw [if_neg (of_decide_eq_false h),if_neg (of_decide_eq_false h2)]; exact ⟨rfl,trivial⟩
@[go_sem] def cmp2S:Spec:=⟨[.int .i64,.int .i64],fun d=>(.dat (.int .i64) (cI d.1 d.2.1),[])⟩
theorem cmp2_ok:SpecOk Tryz.prog 103 cmp2S:=by
 refine fn_ok EV1_ok cmp2S Tryz.func103 rfl (by decide) (N:=20) rfl (res:=[.tmp 4]) rfl (by decide) [] [] [] 100 (by kernel_rfl) ?_
 rintro ⟨(x:Int),(y:Int),_⟩ hw hp
 refine ⟨rfl,fun H hH=>?_⟩
 dsimp only [go_sem] at hw hp ⊢
 unfold cI
 refine ⟨fun h=>(by cases h),fun _=>⟨fun h=>(by cases h),fun _=>⟨fun h=>?_,fun h=>⟨fun h2=>?_,fun h2=>?_⟩⟩⟩⟩
 ·rw [if_pos (of_decide_eq_true h)]; exact ⟨rfl,trivial⟩
 ·rw [if_neg (of_decide_eq_false h),if_pos (of_decide_eq_true h2)]; exact ⟨rfl,trivial⟩
 ·rw [if_neg (of_decide_eq_false h),if_neg (of_decide_eq_false h2)]; exact ⟨rfl,trivial⟩
@[go_sem] def scpS:Spec:=⟨[.str,.str],fun d=>(.dat (.int .i64) (cB d.1 d.2.1),[])⟩
theorem cB_in:∀ a b:Str,-1<=cB a b/\cB a b<=1
 | [],[]=>by decide
 | [],_::_=>by unfold cB Lib.compareBytes; decide
 | _::_,[]=>by unfold cB Lib.compareBytes; decide
 | a::r,b::t=>by
  have:=cB_in r t
  unfold cB at this ⊢
  unfold Lib.compareBytes
  split
  ·decide
  ·split
   ·decide
   ·exact this
theorem scp_ok:SpecOk Tryz.prog 104 scpS:=by
 refine spec_of Tryz.func104 rfl (by decide) fun d hp ρ X w vs hX hm=>?_
 obtain ⟨a,b,u⟩:=d
 obtain ⟨x,y,rfl,⟨cx,⟨hx,_⟩,ex⟩,⟨cy,⟨hy,_⟩,ey⟩⟩:=args2 hm
 subst hx
 subst hy
 have ex:=(List.cons.inj ex).1
 have ey:=(List.cons.inj ey).1
 subst ex
 subst ey
 refine (Tryz.strings_Compare ⟨a.toArray⟩ ⟨b.toArray⟩ w).mono fun e w' ⟨he,hw⟩=>?_
 subst hw
 have hc:=cB_in a b
 refine ⟨.int .i64 (cB a b),by rw [he]; rfl,⟨[.int .i64 (cB a b)],⟨rfl,by show inR .i64 (cB a b); rw [inR_i64]; omega⟩,rfl⟩,Below.refl _ _⟩
@[go_sem] noncomputable def EV2:Env:=(((EV1).add 102 cmp1S).add 103 cmp2S).add 104 scpS
theorem EV2_ok:EV2.Ok:=(((EV1_ok).add cmp1_ok).add cmp2_ok).add scp_ok
theorem orL_at {l:List Int} {i:Nat} (hi:i<l.length) (h:l.getD i 0≠0) (h':∀ j,j<i->l.getD j 0=0):orL l=l.getD i 0:=by
 have e:l[i]?=some (l.getD i 0):=by rw [List.getD_eq_getElem?_getD,List.getElem?_eq_getElem hi]; rfl
 have:l.find? (fun x=>decide (x≠0))=some (l.getD i 0):=by
  rw [List.find?_eq_some_iff_getElem]
  refine ⟨decide_eq_true h,i,hi,?_,fun j hj=>?_⟩
  ·rw [List.getElem?_eq_getElem hi] at e; exact Option.some.inj e
  ·have:=h' j hj
   rw [List.getD_eq_getElem?_getD,List.getElem?_eq_getElem (by omega)] at this
   simp only [Option.getD_some] at this
   simp [this]
 unfold orL; rw [this]; rfl
theorem orL_none {l:List Int} (h:∀ j,j<l.length->l.getD j 0=0):orL l=0:=by
 have:l.find? (fun x=>decide (x≠0))=none:=by
  rw [List.find?_eq_none]
  intro x hx
  obtain ⟨i,hi,e⟩:=List.mem_iff_getElem.1 hx
  have:=h i hi
  rw [List.getD_eq_getElem?_getD,List.getElem?_eq_getElem hi] at this
  simp only [Option.getD_some] at this
  rw [<-e,this]; decide
 unfold orL; rw [this]; rfl
@[go_sem] def orIS:Spec:=⟨[.slice (.int .i64)],fun d=>(.dat (.int .i64) (orL d.1),[List.length d.1<=1000])⟩
theorem orI_ok:SpecOk Tryz.prog 101 orIS:=by
 refine fn_ok EV2_ok orIS Tryz.func101 rfl (by decide) (N:=18) rfl (res:=[.tmp 2]) rfl (by decide) [] [] [] 100 (by kernel_rfl) ?_
 rintro ⟨l,_⟩ hw hp
 refine ⟨rfl,fun H hH=>?_⟩
 dsimp only [go_sem] at hw hp ⊢
 obtain ⟨hp,-⟩:=hp
 clear hw
 change List Int at l
 change l.length<=1000 at hp
 have hz0:zd (.int .i64)=(0:Int):=rfl
 refine hH.loop (fun i:Nat=>⟨[(8,.dat (.int .i64) (i:Int)),(7,.dat (.int .i64) (List.length l:Int)),(6,.dat (.slice (.int .i64)) l),(3,.dat (.int .i64) (0:Int))],[],0⟩) (fun i=>i<=l.length/\∀ j,j<i->l.getD j 0=0) (fun i=>l.length-i) 0 0 ⟨Nat.zero_le _,fun j h=>absurd h (Nat.not_lt_zero _)⟩ ?_ ?_
 ·dsimp only [go_sem]
  and_intros<;>first|trivial|rfl|omega
 ·rintro i ⟨hi,hz⟩ R hm
  refine hH.run 100 _ _ ?_
  dsimp only [go_sem]
  simp only [Int.toNat_natCast,hz0]
  refine ⟨fun d=>?_,fun d=>?_⟩<;>simp only [decide_eq_true_eq,decide_eq_false_iff_not] at d
  ·have d:i<l.length:=by omega
   refine ⟨⟨Int.natCast_nonneg _,Int.ofNat_lt.2 d⟩,fun e=>?_,fun e=>?_⟩<;>simp only [decide_eq_true_eq,decide_eq_false_iff_not,Decidable.not_not] at e
   ·exact ⟨(orL_at d e hz).symm,trivial⟩
   ·refine ⟨by rw [inR_i64]; omega,hm _ (i+1) 0 ⟨d,fun j hj=>?_⟩ (by omega) ?_⟩
    ·rcases Nat.lt_or_ge j i with h|h
     ·exact hz j h
     ·have:j=i:=by omega
      rw [this]; exact e
    ·dsimp only [go_sem]
     and_intros<;>first|trivial|rfl|omega
  ·have d:i=l.length:=by omega
   subst d
   exact ⟨(orL_none hz).symm,trivial⟩
@[go_sem] noncomputable def EV3:Env:=(EV2).add 101 orIS
theorem EV3_ok:EV3.Ok:=(EV2_ok).add orI_ok
@[go_sem] def vcpM:MSpec:=⟨[.d valT,.d valT],fun d=>⟨[],0,.dat (.int .i64) (cV d.1 d.2.1),[]⟩⟩
theorem orL_V (a b:Val):orL [cI a.1 b.1,cI a.2.1 b.2.1,cB a.2.2 b.2.2]=cV a b:=by
 unfold orL cV
 simp only [List.find?_cons,List.find?_nil]
 by_cases h1:cI a.1 b.1=0
 ·by_cases h2:cI a.2.1 b.2.1=0
  ·by_cases h3:cB a.2.2 b.2.2=0<;>simp [h1,h2,h3]
  ·simp [h1,h2]
 ·simp [h1]
theorem vcpM_ok:MSpecOk Tryz.prog 76 vcpM:=by
 refine fnM_ok EV3_ok vcpM Tryz.func76 rfl (by decide) (N:=22) rfl (res:=[.tmp 4]) rfl (by decide) [(1,[(20,.dt)])] [] [] 100 (by kernel_rfl) ?_
 rintro ⟨a,b,_⟩ hw hp H hH
 dsimp only [go_sem] at hw hp ⊢
 refine ⟨Nat.le_of_ble_eq_true rfl,?_⟩
 rw [orL_V]
 and_intros<;>first|trivial|rfl
@[go_sem] noncomputable def EV4:Env:=(EV3).addM 76 vcpM
theorem EV4_ok:EV4.Ok:=(EV3_ok).addM vcpM_ok
theorem cT_drop {l m:List Val} {k:Nat} (hl:k<=l.length) (hm:k<=m.length) (h:∀ j,j<k->cV (l.getD j (0,0,[])) (m.getD j (0,0,[]))=0):cT l m=cT (l.drop k) (m.drop k):=by
 induction k generalizing l m with
 | zero=>rfl
 | succ k ih =>
  cases l with
  | nil=>simp at hl
  | cons a l=>cases m with
   | nil=>simp at hm
   | cons b m =>
    have h0:cV a b=0:=h 0 (Nat.succ_pos _)
    have:cT (a::l) (b::m)=cT l m:=by
     show (if cV a b≠0 then cV a b else cT l m)=cT l m
     rw [if_neg (by rw [h0]; simp)]
    rw [this,List.drop_succ_cons,List.drop_succ_cons]
    exact ih (Nat.le_of_succ_le_succ hl) (Nat.le_of_succ_le_succ hm) fun j hj=>h (j+1) (Nat.succ_lt_succ hj)
theorem drop_at {α:Type} (d:α) {l:List α} {k:Nat} (h:k<l.length):l.drop k=l.getD k d::l.drop (k+1):=by
 have e:l.getD k d=l[k]:=by rw [List.getD_eq_getElem?_getD,List.getElem?_eq_getElem h]; rfl
 rw [e,List.getElem_cons_drop]
@[go_sem] def cfVM:MSpec:=⟨[.d (.slice valT),.d (.slice valT),.k 76],fun d=>⟨[],0,.dat (.int .i64) (cT d.1 d.2.1),[List.length d.1<=1000000/\List.length d.2.1<=1000000]⟩⟩
theorem cfVM_ok:MSpecOk Tryz.prog 75 cfVM:=by
 refine fnM_ok EV4_ok cfVM Tryz.func75 rfl (by decide) (N:=39) rfl (res:=[.tmp 6]) rfl (by decide) [] [] [] 100 (by kernel_rfl) ?_
 rintro ⟨l,z,_⟩ hw hp H hH
 dsimp only [go_sem] at hw hp ⊢
 obtain ⟨⟨hp1,hp2⟩,-⟩:=hp
 change List Val at l z
 change l.length<=1000000 at hp1
 change z.length<=1000000 at hp2
 clear hw
 refine hH.loop (fun i:Nat=>⟨[(13,.dat (.int .i64) (i:Int)),(12,.dat (.int .i64) (l.length:Int)),(11,.dat (.slice valT) l),(0,.dat (.slice valT) l),(1,.dat (.slice valT) z),(2,.clo 76 .nil)],[],0⟩) (fun i=>i<=l.length/\i<=z.length/\∀ j,j<i->cV (l.getD j (0,0,[])) (z.getD j (0,0,[]))=0) (fun i=>l.length-i) 0 0 ⟨Nat.zero_le _,Nat.zero_le _,fun j h=>absurd h (Nat.not_lt_zero _)⟩ ?_ ?_
 ·dsimp only [go_sem]
  and_intros<;>first|trivial|rfl|omega
 ·rintro i ⟨hi,hi2,hz⟩ R hm
  have hd:=cT_drop hi hi2 hz
  refine hH.run 100 _ _ ?_
  dsimp only [go_sem]
  simp only [Int.toNat_natCast]
  have hzl:∀ j,l.getD j (zd valT)=l.getD j (0,0,[]):=fun _=>rfl
  have hzz:∀ j,z.getD j (zd valT)=z.getD j (0,0,[]):=fun _=>rfl
  refine ⟨fun d=>?_,fun d=>?_⟩<;>simp only [decide_eq_true_eq,decide_eq_false_iff_not] at d
  ·have d:i<l.length:=by omega
   rw [drop_at (0,0,[]) d] at hd
   refine ⟨⟨Int.natCast_nonneg _,Int.ofNat_lt.2 d⟩,fun e=>?_,fun e=>?_⟩<;>simp only [decide_eq_true_eq,decide_eq_false_iff_not] at e
   ·have e:z.drop i=[]:=List.drop_of_length_le (by omega)
    rw [e] at hd
    rw [hd]
    and_intros<;>first|trivial|rfl
   ·have e:i<z.length:=by omega
    rw [drop_at (0,0,[]) e] at hd
    have hd:cT l z=if cV (l.getD i (0,0,[])) (z.getD i (0,0,[]))≠0 then cV (l.getD i (0,0,[])) (z.getD i (0,0,[])) else cT (l.drop (i+1)) (z.drop (i+1)):=hd
    refine ⟨⟨Int.natCast_nonneg _,Int.ofNat_lt.2 e⟩,fun g=>?_,fun g=>?_⟩<;>simp only [decide_eq_true_eq,decide_eq_false_iff_not,Decidable.not_not] at g
    ·have g:cV (l.getD i (0,0,[])) (z.getD i (0,0,[]))≠0:=g
     rw [if_pos g] at hd
     rw [hd]
     and_intros<;>first|trivial|rfl
    ·have g:cV (l.getD i (0,0,[])) (z.getD i (0,0,[]))=0:=g
     refine ⟨by rw [inR_i64]; omega,hm _ (i+1) 0 ⟨d,e,fun j hj=>?_⟩ (by omega) ?_⟩
     ·rcases Nat.lt_or_ge j i with h|h
      ·exact hz j h
      ·have:j=i:=by omega
       rw [this]; exact g
     ·dsimp only [go_sem]
      and_intros<;>first|trivial|rfl|omega
  ·have d:i=l.length:=by omega
   subst d
   rw [List.drop_length] at hd
   refine ⟨fun e=>?_,fun e=>?_⟩<;>simp only [decide_eq_true_eq,decide_eq_false_iff_not] at e
   ·have e:l.length<z.length:=by omega
    rw [drop_at (0,0,[]) e] at hd
    rw [hd]
    and_intros<;>first|trivial|rfl
   ·have e:z.drop l.length=[]:=List.drop_of_length_le (by omega)
    rw [e] at hd
    rw [hd]
    and_intros<;>first|trivial|rfl
@[go_sem] noncomputable def EV5:Env:=(EV4).addM 75 cfVM
theorem EV5_ok:EV5.Ok:=(EV4_ok).addM cfVM_ok
@[go_sem] def vctS:Spec:=⟨[.slice valT,.slice valT],fun d=>(.dat (.int .i64) (cT d.1 d.2.1),[List.length d.1<=1000000/\List.length d.2.1<=1000000])⟩
theorem vct_ok:SpecOk Tryz.prog 38 vctS:=by
 refine fn_ok EV5_ok vctS Tryz.func38 rfl (by decide) (N:=8) rfl (res:=[.tmp 4]) rfl (by decide) [(1,[(7,.ow)])] [] [] 100 (by kernel_rfl) ?_
 rintro ⟨l,z,_⟩ hw hp
 refine ⟨rfl,fun H hH=>?_⟩
 dsimp only [go_sem] at hw hp ⊢
 obtain ⟨hp,-⟩:=hp
 exact ⟨hp,rfl,trivial⟩
end Go.Proofs.YtdobkkhncfifeacGreat.Gx
