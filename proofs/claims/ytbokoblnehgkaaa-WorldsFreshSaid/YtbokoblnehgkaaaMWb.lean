/-
  MWb: W4 W6 W5 W7 W9 W8 WA in one text.
-/
import Derived.Test.YtbokoblnehgkaaaMWa
import Derived.Test.YtbokoblnehgkaaaD9
import Derived.Test.YtbokoblnehgkaaaAT
import Derived.Test.YtbokoblnehgkaaaBP
namespace Go.Proofs.Ytbokoblnehgkaaa.Gx
open Go Go.RowKit Tw B Nt
set_option linter.unusedVariables false
set_option linter.unusedSimpArgs false
set_option maxHeartbeats 4000000
set_option maxRecDepth 20000
@[go_sem] def rSwS:Spec:=⟨[wdT,wdT],fun d=>(.dat .bool (decide (d.1=d.2.1)),[])⟩
theorem rSw_ok:SpecOk Try.prog 9 rSwS:=by
 refine fn_ok EW5_ok rSwS Try.func9 rfl (by decide) (N:=26) rfl (res:=[.tmp 4]) rfl (by decide) [] [] [] 100 (by kernel_rfl) ?_
 rintro ⟨a,b,_⟩ hw hp
 refine ⟨rfl,fun H hH=>?_⟩
 dsimp only [go_sem] at hw hp ⊢
 refine ⟨fun h=>?_,fun h=>?_⟩<;>simp only [decide_eq_true_eq,decide_eq_false_iff_not] at h
 ·rw [decide_eq_false (fun e=>h (by rw [e]))]
  exact ⟨rfl,trivial⟩
 have hl:List.length a=List.length b:=by omega
 refine hH.loop (fun i:Nat=>⟨[(0,.dat wdT a),(1,.dat wdT b),(5,.dat (.int .i64) (i:Int))],[],0⟩) (fun i=>i<=List.length a/\List.take i a=List.take i b) (fun i=>List.length a-i) 0 0 ⟨Nat.zero_le _,rfl⟩ ?_ ?_
 ·dsimp only [go_sem]
  simp
 ·intro i ⟨hi,ht⟩ R hm
  refine hH.run 100 _ _ ?_
  dsimp only [go_sem]
  rw [Int.toNat_natCast]
  refine ⟨fun d=>?_,fun d=>?_⟩<;>simp only [decide_eq_true_eq,decide_eq_false_iff_not] at d
  ·have d1:i<List.length a:=by omega
   have b1:(0:Int)<=(i:Int)/\(i:Int)<(List.length a:Int):=by omega
   have b2:(0:Int)<=(i:Int)/\(i:Int)<(List.length b:Int):=by omega
   have ta:=take_get a i (zd (Ty.int IntKind.i64)) d1
   have tb:=take_get b i (zd (Ty.int IntKind.i64)) (by omega)
   refine ⟨b1,b2,fun e=>?_,fun e=>?_⟩<;>simp only [decide_eq_true_eq,decide_eq_false_iff_not] at e
   ·rw [decide_eq_false (fun q=>e (by rw [q]))]
    exact ⟨rfl,trivial⟩
   ·have e:List.getD a i (zd (Ty.int IntKind.i64))=List.getD b i (zd (Ty.int IntKind.i64)):=Decidable.not_not.1 e
    refine ⟨by rw [inR_i64]; omega,hm _ (i+1) 0 ⟨d1,by rw [ta,tb,ht,e]⟩ (by omega) ?_⟩
    dsimp only [go_sem]
    simp
  ·rw [List.take_of_length_le (by omega),List.take_of_length_le (by omega)] at ht
   rw [decide_eq_true ht]
   exact ⟨rfl,trivial⟩
@[go_sem] noncomputable def EW6:Env:=(((((EW5).add 13 bAtS).add 9 rSwS).add 14 bProbS).add 26 bFmtS).add 28 qFmtS
theorem EW6_ok:EW6.Ok:=(((((EW5_ok).add bAt_ok).add rSw_ok).add bProb_ok).add bFmt_ok).add qFmt_ok
def bwd (s:List Blk) (l:List Int):List Int:=(List.range s.length).map fun i:Nat=>bat l (i:Int) % (((s.getD (i:Nat) []).length:Int)+1)-1
@[go_sem] def bWdS:Spec:=⟨[spT,wdT],fun d=>(.dat wdT (bwd d.1 d.2.1),[List.length d.1<=5000,∀ b∈d.1,List.length b<=100])⟩
theorem bWd_ok:SpecOk Try.prog 5 bWdS:=by
 refine fn_ok EW6_ok bWdS Try.func5 rfl (by decide) (N:=31) rfl (res:=[.tmp 4]) rfl (by decide) [(5,[(28,.dt)])] [(6,[1])] [] 100 (by kernel_rfl) ?_
 rintro ⟨s,l,_⟩ hw hp
 refine ⟨rfl,fun H hH=>?_⟩
 dsimp only [go_sem] at hw hp ⊢
 obtain ⟨hs,hb,-⟩:=hp
 refine hH.loop (fun i:Nat=>⟨[(1,.dat wdT l),(2,.ref 0 0),(5,.own 1),(6,.dat (.int .i64) (i:Int))],[(0,.box 25 (.cons (.dat (.slice bkT) s) .nil)),(1,.row 3 (.int .i64) ((List.range i).map fun i:Nat=>bat l (i:Int) % (((s.getD (i:Nat) []).length:Int)+1)-1))],2⟩) (fun i=>i<=List.length s) (fun i=>List.length s-i) 0 1 (Nat.zero_le _) ?_ ?_
 ·dsimp only [go_sem]
  simp
 ·intro i hi R hm
  refine hH.run 100 _ _ ?_
  dsimp only [go_sem]
  rw [Int.toNat_natCast]
  refine ⟨fun d=>?_,fun d=>?_⟩<;>simp only [decide_eq_true_eq,decide_eq_false_iff_not] at d
  ·have d1:i<List.length s:=by omega
   have hs:List.length s<=5000:=hs
   have b1:(0:Int)<=(i:Int)/\(i:Int)<(List.length s:Int):=by omega
   have b0:(0:Int)<=(i:Int)/\(i:Int)<=1000000:=by omega
   have hzb:List.getD s i (zd bkT)=List.getD s i []:=rfl
   have hbl:=hb _ (getD_mem (l:=s) [] d1)
   have hbn:=bat_nn l (i:=(i:Int)) (by omega)
   have e1:List.range (i+1)=List.range i++[i]:=List.range_succ
   rw [hzb,Int.tmod_eq_emod_of_nonneg hbn]
   have m0:=Int.emod_nonneg (bat l (i:Int)) (show (List.length (List.getD s i []):Int)+1≠0 by omega)
   have m1:=Int.emod_lt_of_pos (bat l (i:Int)) (show (0:Int)<(List.length (List.getD s i []):Int)+1 by omega)
   have hbl:(List.getD s i []).length<=100:=hbl
   refine ⟨b0,b1,by rw [inR_i64]; omega,by omega,by rw [inR_i64]; omega,by rw [inR_i64]; omega,?_,rfl,by rw [inR_i64]; omega,hm _ (i+1) 2 d1 (by omega) ?_⟩
   ·rw [List.length_map,List.length_range]; show (i+1)*8<=_; omega
   ·dsimp only [go_sem]
    rw [e1,List.map_append]
    simp
  ·have:i=List.length s:=by have hi:i<=List.length s:=hi; omega
   subst this
   exact ⟨rfl,trivial⟩
@[go_sem] def l11knS:Spec:=⟨[],fun d=>(.dat .bool true,[])⟩
theorem l11kn_ok:SpecOk Try.prog 12 l11knS:=by
 refine fn_ok EW6_ok l11knS Try.func12 rfl (by decide) (N:=60) rfl (res:=[.tmp 0]) rfl (by decide) [(1,[(8,.dt),(11,.dt),(13,.dt)]),(3,[(23,.dt)]),(4,[(31,.tr true),(34,.tr true),(39,.tr true),(45,.tr true),(51,.tr true),(55,.tr true)])] [] [] 100 (by kernel_rfl) ?_
 rintro ⟨_⟩ hw hp
 refine ⟨rfl,fun H hH=>?_⟩
 dsimp only [go_sem] at hw hp ⊢
 have hs:spP [[qf (bpr 1),qf (bpr 1)],[qf (bpr 0)]]:=by
  have h0:=(bpr_b 0).1
  have h1:=(bpr_b 1).1
  refine ⟨by decide,fun b hb=>?_⟩
  simp only [List.mem_cons,List.not_mem_nil,or_false] at hb
  rcases hb with rfl|rfl
  ·refine ⟨by decide,fun f hf=>?_⟩
   simp only [List.mem_cons,List.not_mem_nil,or_false] at hf
   rcases hf with rfl|rfl<;>rw [fs_qf]<;>omega
  ·refine ⟨by decide,fun f hf=>?_⟩
   rw [List.mem_singleton.1 hf,fs_qf]; omega
 have k1:atR [[qf (bpr 1),qf (bpr 1)],[qf (bpr 0)]] (N (dg 5))=([-1,-1],true):=by decide +kernel
 have k2:cnt [[qf (bpr 1),qf (bpr 1)],[qf (bpr 0)]]=6:=by decide +kernel
 have k3:prW [[qf (bpr 1),qf (bpr 1)],[qf (bpr 0)]] [-1,0]=(qf (Rat.divInt 1 6),0):=by decide +kernel
 have hq6:fs (qf (Rat.divInt 1 6))<=1:=by decide +kernel
 have hf6:Fd (qf (Rat.divInt 1 6)):=⟨(canon_dg _).1,(canon_dg _).1⟩
 rw [k1,k2,k3,fq_qf,N_dg (show (0:Int)<=6 by decide)]
 have e1:decT 6=[54]:=decT_of (s:=⟨#[54]⟩) (.inr ⟨by decide,[6],⟨by unfold D10; decide,by decide⟩,by decide,rfl⟩)
 have e2:ftT (Rat.divInt 1 6)=[49,47,54]:=by
  have d1:(Rat.divInt 1 6).den=6:=by decide +kernel
  have d2:(Rat.divInt 1 6).num=1:=by decide +kernel
  have e3:decT 1=[49]:=decT_of (s:=⟨#[49]⟩) (.inr ⟨by decide,[1],⟨by unfold D10; decide,by decide⟩,by decide,rfl⟩)
  unfold ftT
  rw [d1,d2,if_neg (by decide),if_neg (by decide)]
  show decT 1++47::decT 6=_
  rw [e3,e1]; rfl
 rw [e1,e2]
 exact ⟨⟨hs,by decide⟩,by decide,⟨hs,by decide⟩,⟨hs,by decide⟩,by decide,by decide,rfl,by decide,by decide,by decide,by decide,by decide,by decide,Nat.le_trans hq6 (by decide),hf6,by decide,trivial⟩
@[go_sem] noncomputable def EW7:Env:=((EW6).add 5 bWdS).add 12 l11knS
theorem EW7_ok:EW7.Ok:=((EW6_ok).add bWd_ok).add l11kn_ok
end Go.Proofs.Ytbokoblnehgkaaa.Gx
namespace Go.Proofs.Ytbokoblnehgkaaa.Gx
open Go Go.RowKit Tw B Nt
set_option linter.unusedVariables false
set_option linter.unusedSimpArgs false
set_option maxHeartbeats 4000000
set_option maxRecDepth 20000
def bsF (n:Int) (k:Nat):fT.den:=qf (bpr (shrI .i64 n (2+3*(k:Int)))*Rat.divInt 1 2)
def bsb (n:Int):Blk:=(List.range (n % 3).toNat).map (bsF n)
def bspc (l:List Int):List Blk:=(List.range (bat l 0 % 6).toNat).map fun i:Nat=>bsb (bat l (1+(i:Int)))
@[go_sem] def bSpS:Spec:=⟨[wdT],fun d=>(.dat spT (bspc d.1),[])⟩
theorem bSp_ok:SpecOk Try.prog 4 bSpS:=by
 refine fn_ok EW7_ok bSpS Try.func4 rfl (by decide) (N:=56) rfl (res:=[.cell 2 25]) rfl (by decide) [(1,[(11,.ag)]),(5,[(19,.ag)]),(12,[(46,.dt)]),(13,[(52,.dt)])] [(13,[4]),(14,[2])] [] 100 (by kernel_rfl) ?_
 rintro ⟨l,_⟩ hw hp
 refine ⟨rfl,fun H hH=>?_⟩
 dsimp only [go_sem] at hw hp ⊢
 refine hH.loop (fun i:Nat=>⟨[(0,.dat wdT l),(2,.ref 0 0),(3,.ref 1 0),(4,.dat (.int .i64) (i:Int))],[(0,.box 25 (zA spT .nil)),(1,.box 25 (.cons (.own 2) .nil)),(2,.row 37 bkT ((List.range i).map fun i:Nat=>bsb (bat l (1+(i:Int)))))],3⟩) (fun i=>i<=(bat l 0 % 6).toNat) (fun i=>(bat l 0 % 6).toNat-i) 0 2 (Nat.zero_le _) ?_ ?_
 ·dsimp only [go_sem]
  simp
 ·intro i hi R hm
  refine hH.run 100 _ _ ?_
  dsimp only [go_sem]
  have hbn:=bat_nn l (i:=0) (by decide)
  have hi:i<=(bat l 0 % 6).toNat:=hi
  rw [Int.tmod_eq_emod_of_nonneg hbn]
  refine ⟨⟨Int.le_refl _,by decide⟩,by decide,by rw [inR_i64]; omega,fun d=>?_,fun d=>?_⟩<;>simp only [decide_eq_true_eq,decide_eq_false_iff_not] at d
  ·have d:(i:Int)<bat l 0 % 6:=d
   refine ⟨by rw [inR_i64]; omega,⟨by show (0:Int)<=1+(i:Int); omega,by show 1+(i:Int)<=1000000; omega⟩,?_⟩
   have hnn:=bat_nn l (i:=1+(i:Int)) (by omega)
   obtain ⟨n,hn⟩:∃ n,bat l (1+(i:Int))=n:=⟨_,rfl⟩
   rw [hn] at hnn ⊢
   refine hH.loop (fun k:Nat=>⟨[(0,.dat wdT l),(2,.ref 0 0),(3,.ref 1 0),(4,.dat (.int .i64) (i:Int)),(5,.ref 3 0),(6,.dat (.int .i64) n),(7,.dat (.int .i64) (k:Int))],[(0,.box 25 (zA spT .nil)),(1,.box 25 (.cons (.own 2) .nil)),(2,.row 37 bkT ((List.range i).map fun i:Nat=>bsb (bat l (1+(i:Int))))),(3,.box 37 (.cons (.own 4) .nil)),(4,.row 41 fT ((List.range k).map (bsF n)))],5⟩) (fun k=>k<=(n % 3).toNat) (fun k=>(n % 3).toNat-k) 0 4 (Nat.zero_le _) ?_ ?_
   ·dsimp only [go_sem]
    simp
   ·intro k hk R2 hm2
    refine hH.run 100 _ _ ?_
    dsimp only [go_sem]
    have h12:(if (2:Int)=0 then f0 else qf (Rat.divInt 1 2))=qf (Rat.divInt 1 2):=by decide +kernel
    have hq1:=(bpr_b (shrI .i64 n (2+3*(k:Int)))).1
    have hq2:fs (qf (Rat.divInt 1 2))<=1:=by decide +kernel
    have hk:k<=(n % 3).toNat:=hk
    rw [h12,fq_qf,fq_qf,Int.tmod_eq_emod_of_nonneg hnn]
    refine ⟨by decide,by rw [inR_i64]; omega,fun e=>?_,fun e=>?_⟩<;>simp only [decide_eq_true_eq,decide_eq_false_iff_not] at e
    ·have e:(k:Int)<n % 3:=e
     have e1:List.range (k+1)=List.range k++[k]:=List.range_succ
     refine ⟨by rw [inR_i64]; omega,by rw [inR_i64]; omega,by rw [u64R']; omega,by show (0:Int)<=2+3*(k:Int); omega,by rw [fs_qf]; omega,by omega,?_,rfl,by rw [inR_i64]; omega,hm2 _ (k+1) 5 (by show k+1<=_; omega) (by omega) ?_⟩
     ·rw [List.length_map,List.length_range]; show (k+1)*56<=_; omega
     ·dsimp only [go_sem]
      rw [e1,List.map_append]
      simp [bsF]
    ·have e2:(List.range k).map (bsF n)=bsb n:=by
       have:¬(k:Int)<n % 3:=e
       unfold bsb
       congr 2
       omega
     rw [e2]
     have e1:List.range (i+1)=List.range i++[i]:=List.range_succ
     refine ⟨?_,rfl,by rw [inR_i64]; omega,hm _ (i+1) 3 (by show i+1<=_; omega) (by omega) ?_⟩
     ·rw [List.length_map,List.length_range]; show (i+1)*24<=_; omega
     ·dsimp only [go_sem]
      rw [e1,List.map_append]
      simp [hn]
  ·have e2:(List.range i).map (fun i:Nat=>bsb (bat l (1+(i:Int))))=bspc l:=by
     have:¬(i:Int)<bat l 0 % 6:=d
     unfold bspc
     congr 2
     omega
   rw [e2]
   exact ⟨rfl,trivial⟩
@[go_sem] noncomputable def EW8:Env:=(EW7).add 4 bSpS
theorem EW8_ok:EW8.Ok:=(EW7_ok).add bSp_ok
end Go.Proofs.Ytbokoblnehgkaaa.Gx
namespace Go.Proofs.Ytbokoblnehgkaaa.Gx
open Go Go.RowKit Tw B Nt
set_option linter.unusedVariables false
set_option linter.unusedSimpArgs false
set_option maxHeartbeats 4000000
set_option maxRecDepth 20000
end Go.Proofs.Ytbokoblnehgkaaa.Gx
namespace Go.Proofs.Ytbokoblnehgkaaa.Gx
open Go Go.RowKit Tw B Nt
set_option linter.unusedVariables false
set_option linter.unusedSimpArgs false
set_option maxHeartbeats 4000000
set_option maxRecDepth 20000
theorem bprK_1:∀ k,k<8->0<=bprK k*Rat.divInt 1 2/\bprK k*Rat.divInt 1 2<=Rat.divInt 1 2/\qs (bprK k*Rat.divInt 1 2)<=1:=by decide +kernel
theorem bsF_ok (n:Int) (k:Nat):0<=fq (bsF n k)/\fq (bsF n k)<=Rat.divInt 1 2/\fs (bsF n k)<=1:=by
 unfold bsF
 rw [fq_qf,fs_qf]
 exact bprK_1 _ (by omega)
theorem bsb_len (n:Int):(bsb n).length<=2:=by
 unfold bsb
 rw [List.length_map,List.length_range]
 omega
theorem bsb_mem {n:Int} {f:fT.den} (h:f∈bsb n):0<=fq f/\fq f<=Rat.divInt 1 2/\fs f<=1:=by
 unfold bsb at h
 obtain ⟨k,-,rfl⟩:=List.mem_map.1 h
 exact bsF_ok n k
theorem half_le {b:Blk} (hl:b.length<=2) (h:∀ f∈b,fq f<=Rat.divInt 1 2):qsum b<=1:=by
 match b,hl,h with
 | [],_,_=>decide +kernel
 | [x],_,h =>
  have h1:=h x (by simp)
  have e:qsum [x]=fq x:=by show (0:Rat)+fq x=fq x; rw [Rat.zero_add]
  rw [e]
  exact Rat.le_trans h1 (by decide +kernel)
 | [x,y],_,h =>
  have h1:=h x (by simp)
  have h2:=h y (by simp)
  have e:qsum [x,y]=fq x+fq y:=by show (0:Rat)+fq x+fq y=_; rw [Rat.zero_add]
  rw [e]
  have h3:fq x+fq y<=Rat.divInt 1 2+fq y:=Rat.add_le_add_right.2 h1
  have h4:Rat.divInt 1 2+fq y<=Rat.divInt 1 2+Rat.divInt 1 2:=Rat.add_le_add_left.2 h2
  exact Rat.le_trans (Rat.le_trans h3 h4) (by decide +kernel)
 | _::_::_::_,hl,_=>simp at hl
theorem bsb_ok (n:Int):okB (bsb n)=true/\bkP (bsb n):=by
 have hl:=bsb_len n
 refine ⟨?_,by omega,fun f hf=>Nat.le_trans (bsb_mem hf).2.2 (by decide)⟩
 unfold okB
 rw [decide_eq_true (by omega),Bool.true_and,Bool.and_eq_true]
 refine ⟨?_,decide_eq_true ?_⟩
 ·rw [List.all_eq_true]
  exact fun f hf=>decide_eq_true (bsb_mem hf).1
 ·have:=half_le hl fun f hf=>(bsb_mem hf).2.1
  unfold rm
  have h2:=(Rat.le_iff_sub_nonneg _ _).1 this
  exact h2
theorem bspc_mem {l:List Int} {b:Blk} (h:b∈bspc l):∃ n,b=bsb n:=by
 unfold bspc at h
 obtain ⟨i,-,rfl⟩:=List.mem_map.1 h
 exact ⟨_,rfl⟩
theorem bspc_len (l:List Int):(bspc l).length<=5:=by
 have:=bat_nn l (i:=0) (by decide)
 unfold bspc
 rw [List.length_map,List.length_range]
 omega
theorem prd_le3:∀ (s:List Blk),(∀ b∈s,b.length<=2)->prd s<=3 ^ s.length
 | [],_=>by decide
 | b::s,h=>by
  have ih:=prd_le3 s fun b hb=>h b (List.mem_cons_of_mem _ hb)
  have hb:=h b (List.mem_cons_self ..)
  have hP:=prd_pos s
  have h1:=Int.mul_le_mul (show (b.length:Int)+1<=3 by omega) ih (by omega) (by decide)
  rw [prd,List.length_cons,Int.pow_succ,Int.mul_comm]
  rw [Int.mul_comm] at h1
  rw [Int.mul_comm (3 ^ s.length)]
  rw [Int.mul_comm (prd s)]
  exact Int.le_trans (Int.le_of_eq (Int.mul_comm _ _)) h1
theorem bspc_ok (l:List Int):vld (bspc l)=true/\spP (bspc l)/\prd (bspc l)<=243:=by
 have hl:=bspc_len l
 refine ⟨?_,⟨by omega,fun b hb=>?_⟩,?_⟩
 ·unfold vld
  rw [decide_eq_true (by omega),Bool.true_and,List.all_eq_true]
  intro b hb
  obtain ⟨n,rfl⟩:=bspc_mem hb
  exact (bsb_ok n).1
 ·obtain ⟨n,rfl⟩:=bspc_mem hb
  exact (bsb_ok n).2
 ·have h1:=prd_le3 (bspc l) fun b hb=>by obtain ⟨n,rfl⟩:=bspc_mem hb; exact bsb_len n
  have h2:∀ k,k<=5->(3:Int) ^ k<=243:=by decide
  exact Int.le_trans h1 (h2 _ hl)
end Go.Proofs.Ytbokoblnehgkaaa.Gx
namespace Go.Proofs.Ytbokoblnehgkaaa.Gx
open Go Go.RowKit Tw B Nt
set_option linter.unusedVariables false
set_option linter.unusedSimpArgs false
set_option maxHeartbeats 4000000
set_option maxRecDepth 20000
theorem set_rep2 {α:Type} (z:α) (A:List α) (x:α) (n:Nat) {i:Nat} (h:A.length=i):(A++List.replicate (n+1) z).set i x=(A++[x])++List.replicate n z:=by
 subst h
 rw [List.replicate_succ,List.set_append,if_neg (by omega),Nat.sub_self,List.append_assoc]
 rfl
def canB (b:Blk):Blk:=b.map fun f=>qf (fq f)
def ccW (a b:List Blk):List Blk×Int:=if vld a&&vld b then (if a.length+b.length<=4096 then ((a++b).map canB,0) else ([],4)) else ([],1)
@[go_sem] def wCcS:Spec:=⟨[spT,spT],fun d=>(.tup (.cons (.dat spT (ccW d.1 d.2.1).1) (.cons (.dat (.int .i64) (ccW d.1 d.2.1).2) .nil)),[spP d.1,spP d.2.1])⟩
theorem wCc_ok:SpecOk Try.prog 8 wCcS:=by
 refine fn_ok EW8_ok wCcS Try.func8 rfl (by decide) (N:=75) rfl (res:=[.cell 4 25,.tmp 5]) rfl (by decide) [(6,[(34,.dt)]),(18,[(69,.dt)])] [(18,[6]),(21,[4])] [] 100 (by kernel_rfl) ?_
 rintro ⟨a,b,_⟩ hw hp
 refine ⟨rfl,fun H hH=>?_⟩
 dsimp only [go_sem] at hw hp ⊢
 obtain ⟨ha,hb,-⟩:=hp
 have hr:ccW a b=if vld a&&vld b then (if a.length+b.length<=4096 then ((a++b).map canB,0) else ([],4)) else ([],1):=rfl
 refine ⟨ha,fun h=>h,fun _=>hb,fun h=>h,fun h=>h,fun h=>?_,fun h=>⟨?_,fun d=>?_,fun d=>?_⟩⟩
 ·rw [if_neg (by cases h1:vld a<;>cases h2:vld b<;>simp_all)] at hr
  simp [hr]
 ·have h1:=ha.1
  have h2:=hb.1
  rw [inR_i64]
  omega
 ·simp only [decide_eq_true_eq] at d
  have h1:(vld a&&vld b)=true:=by cases h1:vld a<;>cases h2:vld b<;>simp_all
  rw [if_pos h1,if_neg (by omega)] at hr
  simp [hr]
 ·simp only [decide_eq_false_iff_not] at d
  have h1:(vld a&&vld b)=true:=by cases h1:vld a<;>cases h2:vld b<;>simp_all
  rw [if_pos h1,if_pos (by omega)] at hr
  have hall:∀ p∈[a,b],spP p/\(∀ x∈p,∀ f∈x,wfD fT f):=fun p hp=>by
   simp only [List.mem_cons,List.not_mem_nil,or_false] at hp
   rcases hp with rfl|rfl
   ·exact ⟨ha,fun x hx=>(hw.1.2 x hx).2⟩
   ·exact ⟨hb,fun x hx=>(hw.2.1.2 x hx).2⟩
  have hlen2:∀ k,((List.take k [a,b]).flatten.map canB).length<=10000:=fun k=>by
   have h1:=ha.1
   have h2:=hb.1
   rcases k with _|_|k<;>simp<;>omega
  refine hH.loop (fun i:Nat=>⟨[(4,.ref 2 0),(6,.ref 3 0),(34,.dat (.slice spT) [a,b]),(35,.dat (.int .i64) 2),(36,.dat (.int .i64) (i:Int))],[(2,.box 25 (zA spT .nil)),(3,.box 25 (.cons (.own 4) .nil)),(4,.row 37 bkT ((List.take i [a,b]).flatten.map canB))],5⟩) (fun i=>i<=2) (fun i=>2-i) 0 4 (Nat.zero_le _) ?_ ?_
  ·dsimp only [go_sem]
   simp
  ·intro i hi R hm
   refine hH.run 100 _ _ ?_
   dsimp only [go_sem]
   rw [Int.toNat_natCast]
   refine ⟨fun e=>?_,fun e=>?_⟩<;>simp only [decide_eq_true_eq,decide_eq_false_iff_not] at e
   ·have e:i<2:=by have e:(i:Int)<2:=e; omega
    have e2:i<[a,b].length:=e
    have b1:(0:Int)<=(i:Int)/\(i:Int)<((2:Nat):Int):=by omega
    refine ⟨b1,?_⟩
    have hzp:List.getD [a,b] i (zd spT)=List.getD [a,b] i []:=rfl
    have hpm:=getD_mem (l:=[a,b]) [] e2
    have htk:=take_get [a,b] i [] e2
    rw [hzp]
    have hl0:=hlen2 i
    have hl1:=hlen2 (i+1)
    rw [htk] at hl1
    generalize List.getD [a,b] i []=p at *
    obtain ⟨⟨hp1,hp2⟩,hp3⟩:=hall p hpm
    have hfl:(List.take i [a,b]++[p]).flatten.map canB=(List.take i [a,b]).flatten.map canB++p.map canB:=by simp
    rw [hfl] at hl1
    have htk2:(List.take (i+1) [a,b]).flatten.map canB=(List.take i [a,b]).flatten.map canB++p.map canB:=by rw [htk,hfl]
    generalize (List.take i [a,b]).flatten.map canB=L at *
    refine hH.loop (fun k:Nat=>⟨[(4,.ref 2 0),(6,.ref 3 0),(34,.dat (.slice spT) [a,b]),(35,.dat (.int .i64) 2),(36,.dat (.int .i64) (i:Int)),(41,.dat (.slice bkT) p),(42,.dat (.int .i64) (p.length:Int)),(43,.dat (.int .i64) (k:Int))],[(2,.box 25 (zA spT .nil)),(3,.box 25 (.cons (.own 4) .nil)),(4,.row 37 bkT (L++(List.take k p).map canB))],5⟩) (fun k=>k<=p.length) (fun k=>p.length-k) 0 5 (Nat.zero_le _) ?_ ?_
    ·dsimp only [go_sem]
     simp
    ·intro k hk R2 hm2
     refine hH.run 100 _ _ ?_
     dsimp only [go_sem]
     rw [Int.toNat_natCast]
     refine ⟨fun g=>?_,fun g=>?_⟩<;>simp only [decide_eq_true_eq,decide_eq_false_iff_not] at g
     ·have g:k<p.length:=by have g:(k:Int)<(p.length:Int):=g; omega
      have hzb:List.getD p k (zd bkT)=List.getD p k []:=rfl
      have hbm:=getD_mem (l:=p) [] g
      have htb:=take_get p k [] g
      rw [hzb]
      generalize List.getD p k []=x at *
      obtain ⟨hx1,hx2⟩:=hp2 x hbm
      have hx3:=hp3 x hbm
      have b2:(0:Int)<=(k:Int)/\(k:Int)<(p.length:Int):=by omega
      have hx1:List.length x<=100:=hx1
      refine ⟨b2,⟨Int.natCast_nonneg _,Int.le_refl _,by show (56:Int)*(List.length x:Int)<=140737488355328; omega⟩,?_⟩
      rw [Int.toNat_natCast]
      refine hH.loop (fun m:Nat=>⟨[(4,.ref 2 0),(6,.ref 3 0),(34,.dat (.slice spT) [a,b]),(35,.dat (.int .i64) 2),(36,.dat (.int .i64) (i:Int)),(41,.dat (.slice bkT) p),(42,.dat (.int .i64) (p.length:Int)),(43,.dat (.int .i64) (k:Int)),(11,.own 6),(52,.dat (.slice fT) x),(53,.dat (.int .i64) (List.length x:Int)),(54,.dat (.int .i64) (m:Int))],[(2,.box 25 (zA spT .nil)),(3,.box 25 (.cons (.own 4) .nil)),(4,.row 37 bkT (L++(List.take k p).map canB)),(6,.row 41 fT ((List.take m x).map (fun f=>qf (fq f))++List.replicate (List.length x-m) (false,[],[])))],7⟩) (fun m=>m<=List.length x) (fun m=>List.length x-m) 0 7 (Nat.zero_le _) ?_ ?_
      ·dsimp only [go_sem]
       simp
       exact .inr rfl
      ·intro m hmm R3 hm3
       refine hH.run 100 _ _ ?_
       dsimp only [go_sem]
       rw [Int.toNat_natCast]
       have hmm:m<=List.length x:=hmm
       have hlr:(List.map (fun f=>qf (fq f)) (List.take m x)++List.replicate (List.length x-m) (false,[],[])).length=List.length x:=by
        rw [List.length_append,List.length_map,List.length_replicate,len_take hmm]; omega
       have hLk:(L++List.map canB (List.take k p)).length<=10000:=by
        rw [List.length_append,List.length_map] at hl1 ⊢
        have:(List.take k p).length<=p.length:=by rw [List.length_take]; omega
        omega
       rw [hlr]
       refine ⟨fun q=>?_,fun q=>?_⟩<;>simp only [decide_eq_true_eq,decide_eq_false_iff_not] at q
       ·have q:m<List.length x:=by have q:(m:Int)<(List.length x:Int):=q; omega
        have hzf:List.getD x m (zd fT)=List.getD x m (false,[],[]):=rfl
        have hfm:=getD_mem (l:=x) (false,[],[]) q
        have htf:=take_get x m (false,[],[]) q
        have hst:=set_rep2 ((false,[],[]):fT.den) (List.map (fun f=>qf (fq f)) (List.take m x)) (qf (fq (List.getD x m (false,[],[])))) (List.length x-(m+1)) (i:=m) (by rw [List.length_map,len_take hmm])
        rw [show List.length x-(m+1)+1=List.length x-m by omega] at hst
        rw [hzf,hst]
        have b3:(0:Int)<=(m:Int)/\(m:Int)<(List.length x:Int):=by omega
        refine ⟨b3,Nat.le_trans (hx2 _ hfm) (by decide),b3,q,by rw [inR_i64]; omega,hm3 _ (m+1) 7 q (by omega) ?_⟩
        dsimp only [go_sem]
        rw [htf,List.map_append]
        simp
       ·have hme:m=List.length x:=by have q:¬(m:Int)<(List.length x:Int):=q; omega
        have hcx:List.map (fun f=>qf (fq f)) (List.take m x)++List.replicate (List.length x-m) (false,[],[])=canB x:=by
         rw [hme,List.take_length,Nat.sub_self,List.replicate_zero,List.append_nil]; rfl
        rw [hcx]
        have hpl:p.length<=5000:=hp1
        refine ⟨?_,rfl,by rw [inR_i64]; omega,hm2 _ (k+1) 5 g (by omega) ?_⟩
        ·show ((L++List.map canB (List.take k p)).length+1)*24<=_
         omega
        ·dsimp only [go_sem]
         rw [htb,List.map_append]
         simp
     ·rw [List.take_of_length_le (by have g:¬(k:Int)<(p.length:Int):=g; omega)]
      refine ⟨by rw [inR_i64]; omega,hm _ (i+1) 5 e (by omega) ?_⟩
      dsimp only [go_sem]
      rw [htk2]
      simp
   ·have hi:i<=2:=hi
    have:i=2:=by have e:¬(i:Int)<2:=e; omega
    subst this
    have:(List.take 2 [a,b]).flatten.map canB=(a++b).map canB:=by simp
    rw [this,hr]
    simp
@[go_sem] noncomputable def EW9:Env:=((((EW8).add 8 wCcS).add 60 rFSumS).add 59 rFComplS).add 36 rFSignS
theorem EW9_ok:EW9.Ok:=((((EW8_ok).add wCc_ok).add rFSum_ok).add rFCompl_ok).add rFSign_ok
@[go_sem] def rRmS:Spec:=⟨[bkT],fun d=>(.dat fT (qf (rm d.1)),[bkP d.1])⟩
theorem rRm_ok:SpecOk Try.prog 37 rRmS:=by
 refine fn_ok EW9_ok rRmS Try.func37 rfl (by decide) (N:=7) rfl (res:=[.cell 2 41]) rfl (by decide) [] [] [] 100 (by kernel_rfl) ?_
 rintro ⟨b,_⟩ hw hp
 refine ⟨rfl,fun H hH=>?_⟩
 dsimp only [go_sem] at hw hp ⊢
 obtain ⟨⟨h1,h2⟩,-⟩:=hp
 obtain ⟨q1,q2⟩:=rm_sz hw.1.2 ⟨h1,h2⟩
 refine ⟨Nat.le_trans h1 (by decide),h2,by rw [fs_qf] at q1 ⊢; omega,?_,trivial⟩
 rw [fq_qf]; rfl
@[go_sem] noncomputable def EWA:Env:=(EW9).add 37 rRmS
theorem EWA_ok:EWA.Ok:=(EW9_ok).add rRm_ok
@[go_sem] noncomputable def EWB:Env:=EWA
theorem EWB_ok:EWB.Ok:=EWA_ok
@[go_sem] def rValS:Spec:=⟨[spT],fun d=>(.dat .bool (vld d.1),[spP d.1])⟩
theorem rVal_ok:SpecOk Try.prog 22 rValS:=by
 refine fn_ok EWB_ok rValS Try.func22 rfl (by decide) (N:=46) rfl (res:=[.tmp 2]) rfl (by decide) [] [] [] 100 (by kernel_rfl) ?_
 rintro ⟨s,_⟩ hw hp
 refine ⟨rfl,fun H hH=>?_⟩
 dsimp only [go_sem] at hw hp ⊢
 obtain ⟨⟨hs1,hs2⟩,-⟩:=hp
 have hwb:∀ b∈s,∀ f∈b,wfD fT f:=fun b hb=>(hw.1.2 b hb).2
 have hv:vld s=(decide (List.length s<=4096)&&List.all s okB):=rfl
 refine ⟨fun h=>?_,fun h=>?_⟩<;>simp only [decide_eq_true_eq,decide_eq_false_iff_not] at h
 ·rw [hv,decide_eq_false (by omega)]
  exact ⟨rfl,trivial⟩
 rw [decide_eq_true (by omega),Bool.true_and] at hv
 refine hH.loop (fun i:Nat=>⟨[(1,.ref 0 0),(3,.dat (.int .i64) (i:Int))],[(0,.box 25 (.cons (.dat (.slice bkT) s) .nil))],1⟩) (fun i=>i<=List.length s/\(List.take i s).all okB=true) (fun i=>List.length s-i) 0 1 ⟨Nat.zero_le _,rfl⟩ ?_ ?_
 ·dsimp only [go_sem]
  simp
 ·intro i ⟨hi,hall⟩ R hm
  refine hH.run 100 _ _ ?_
  dsimp only [go_sem]
  refine ⟨fun d=>?_,fun d=>?_⟩<;>simp only [decide_eq_true_eq,decide_eq_false_iff_not] at d
  ·have d:i<List.length s:=by have d:(i:Int)<(List.length s:Int):=d; omega
   have hmem:=getD_mem (l:=s) (zd bkT) d
   have hsn:=all_snoc (p:=okB) (l:=s) (zd bkT) d
   have hbad:=all_bad (p:=okB) (l:=s) (zd bkT) d
   rw [Int.toNat_natCast]
   generalize List.getD s i (zd bkT)=b at *
   obtain ⟨hb1,hb2⟩:=hs2 b hmem
   have hwf:=hwb b hmem
   have hob:okB b=(decide (List.length b<=16)&&(b.all fun f=>decide (0<=fq f))&&decide (0<=rm b)):=rfl
   have b1:(0:Int)<=(i:Int)/\(i:Int)<(List.length s:Int):=by omega
   have hsz:=rm_sz hwf ⟨hb1,hb2⟩
   refine ⟨b1,fun h=>h,fun _=>⟨hb1,hb2⟩,fun h=>h,fun _=>by rw [fs_qf]; omega,fun h=>h,fun h=>h,fun g=>?_,fun g=>?_⟩
   ·simp only [Bool.or_eq_true,decide_eq_true_eq] at g
    rw [fq_qf,wsgQ_lt] at g
    have:okB b=false:=by
     rw [hob]
     rcases g with g|g
     ·rw [decide_eq_false (by omega)]; rfl
     ·rw [decide_eq_false g,Bool.and_false]
    rw [hv,hbad this]
    exact ⟨rfl,trivial⟩
   ·simp only [Bool.or_eq_false_iff,decide_eq_false_iff_not] at g
    rw [fq_qf,wsgQ_lt,Decidable.not_not] at g
    rw [decide_eq_true (by omega),Bool.true_and,decide_eq_true g.2,Bool.and_true] at hob
    refine hH.loop (fun k:Nat=>⟨[(1,.ref 0 0),(3,.dat (.int .i64) (i:Int)),(4,.ref 1 0),(5,.dat (.int .i64) (k:Int))],[(0,.box 25 (.cons (.dat (.slice bkT) s) .nil)),(1,.box 37 (.cons (.dat (.slice fT) b) .nil))],2⟩) (fun k=>k<=List.length b/\(List.take k b).all (fun f=>decide (0<=fq f))=true) (fun k=>List.length b-k) 0 2 ⟨Nat.zero_le _,rfl⟩ ?_ ?_
    ·dsimp only [go_sem]
     simp
    ·intro k ⟨hk,hka⟩ R2 hm2
     refine hH.run 100 _ _ ?_
     dsimp only [go_sem]
     rw [Int.toNat_natCast]
     refine ⟨fun e=>?_,fun e=>?_⟩<;>simp only [decide_eq_true_eq,decide_eq_false_iff_not] at e
     ·have e:k<List.length b:=by have e:(k:Int)<(List.length b:Int):=e; omega
      have fmem:=getD_mem (l:=b) (zd fT) e
      have fsn:=all_snoc (p:=fun f=>decide (0<=fq f)) (l:=b) (zd fT) e
      have fbad:=all_bad (p:=fun f=>decide (0<=fq f)) (l:=b) (zd fT) e
      have hz:(zd (Ty.bool.pair ((Ty.int IntKind.u32).slice.pair (Ty.int IntKind.u32).slice)))=zd fT:=rfl
      rw [hz]
      generalize List.getD b k (zd fT)=f at *
      have b2:(0:Int)<=(k:Int)/\(k:Int)<(List.length b:Int):=by omega
      refine ⟨b2,Nat.le_trans (hb2 f fmem) (by decide),fun j=>?_,fun j=>?_⟩<;>simp only [decide_eq_true_eq,decide_eq_false_iff_not] at j
      ·rw [wsgQ_lt] at j
       rw [hv,hbad (by rw [hob,fbad (decide_eq_false j)])]
       exact ⟨rfl,trivial⟩
      ·rw [wsgQ_lt,Decidable.not_not] at j
       refine ⟨by rw [inR_i64]; omega,hm2 _ (k+1) 2 ⟨e,by rw [fsn,hka,decide_eq_true j]; rfl⟩ (by omega) ?_⟩
       dsimp only [go_sem]
       simp
     ·have e:¬(k:Int)<(List.length b:Int):=e
      have hka2:(b.all fun f=>decide (0<=fq f))=true:=by rw [List.take_of_length_le (by omega)] at hka; exact hka
      rw [hka2] at hob
      refine ⟨by rw [inR_i64]; omega,hm _ (i+1) 1 ⟨d,by rw [hsn,hall,hob]; rfl⟩ (by omega) ?_⟩
      dsimp only [go_sem]
      simp
  ·have d:¬(i:Int)<(List.length s:Int):=d
   rw [List.take_of_length_le (by omega)] at hall
   rw [hv,hall]
   exact ⟨rfl,trivial⟩
@[go_sem] noncomputable def EWC:Env:=(EWB).add 22 rValS
theorem EWC_ok:EWC.Ok:=(EWB_ok).add rVal_ok
@[go_sem] def rSaS:Spec:=⟨[spT,spT],fun d=>(.dat .bool (decide (d.1=d.2.1)),[])⟩
theorem rSa_ok:SpecOk Try.prog 10 rSaS:=by
 refine fn_ok EWC_ok rSaS Try.func10 rfl (by decide) (N:=67) rfl (res:=[.tmp 4]) rfl (by decide) [] [] [] 100 (by kernel_rfl) ?_
 rintro ⟨a,b,_⟩ hw hp
 refine ⟨rfl,fun H hH=>?_⟩
 dsimp only [go_sem] at hw hp ⊢
 refine ⟨fun h=>?_,fun h=>?_⟩<;>simp only [decide_eq_true_eq,decide_eq_false_iff_not] at h
 ·rw [decide_eq_false (fun e=>h (by rw [e]))]
  exact ⟨rfl,trivial⟩
 have hl:List.length a=List.length b:=by omega
 refine hH.loop (fun i:Nat=>⟨[(2,.ref 0 0),(3,.ref 1 0),(5,.dat (.int .i64) (i:Int))],[(0,.box 25 (.cons (.dat (.slice bkT) a) .nil)),(1,.box 25 (.cons (.dat (.slice bkT) b) .nil))],2⟩) (fun i=>i<=List.length a/\List.take i a=List.take i b) (fun i=>List.length a-i) 0 2 ⟨Nat.zero_le _,rfl⟩ ?_ ?_
 ·dsimp only [go_sem]
  simp
 ·intro i ⟨hi,ht⟩ R hm
  refine hH.run 100 _ _ ?_
  dsimp only [go_sem]
  rw [Int.toNat_natCast]
  refine ⟨fun d=>?_,fun d=>?_⟩<;>simp only [decide_eq_true_eq,decide_eq_false_iff_not] at d
  ·have d:i<List.length a:=by have d:(i:Int)<(List.length a:Int):=d; omega
   have b1:(0:Int)<=(i:Int)/\(i:Int)<(List.length a:Int):=by omega
   have b2:(0:Int)<=(i:Int)/\(i:Int)<(List.length b:Int):=by omega
   have ta:=take_get a i [] d
   have tb:=take_get b i [] (show i<List.length b by omega)
   have hza:List.getD a i (zd bkT)=List.getD a i []:=rfl
   have hzb:List.getD b i (zd bkT)=List.getD b i []:=rfl
   have hxl:List.length (List.getD a i [])<=9223372036854775807:=(hw.1.2 _ (getD_mem (l:=a) [] d)).1
   obtain ⟨x,hx⟩:∃ x:Blk,List.getD a i []=x:=⟨_,rfl⟩
   rw [hx] at hxl
   obtain ⟨y,hy⟩:∃ y:Blk,List.getD b i []=y:=⟨_,rfl⟩
   have hza2:List.getD a i (zd bkT)=x:=hx
   have hzb2:List.getD b i (zd bkT)=y:=hy
   rw [hza,hzb,hx,hy]
   rw [hx] at ta
   rw [hy] at tb
   refine ⟨b1,b2,fun e=>?_,fun e=>?_⟩<;>simp only [decide_eq_true_eq,decide_eq_false_iff_not] at e
   ·rw [decide_eq_false (fun q=>e (by rw [<-hx,<-hy,q]))]
    exact ⟨rfl,trivial⟩
   have hlxy:List.length x=List.length y:=by omega
   refine hH.loop (fun k:Nat=>⟨[(2,.ref 0 0),(3,.ref 1 0),(5,.dat (.int .i64) (i:Int)),(6,.dat (.int .i64) (k:Int))],[(0,.box 25 (.cons (.dat (.slice bkT) a) .nil)),(1,.box 25 (.cons (.dat (.slice bkT) b) .nil))],2⟩) (fun k=>k<=List.length x/\List.take k x=List.take k y) (fun k=>List.length x-k) 0 2 ⟨Nat.zero_le _,rfl⟩ ?_ ?_
   ·dsimp only [go_sem]
    simp
   ·intro k ⟨hk,htk⟩ R2 hm2
    refine hH.run 100 _ _ ?_
    dsimp only [go_sem]
    rw [Int.toNat_natCast,Int.toNat_natCast,hza2,hzb2]
    refine ⟨b1,fun g=>?_,fun g=>?_⟩<;>simp only [decide_eq_true_eq,decide_eq_false_iff_not] at g
    ·have g:k<List.length x:=by have g:(k:Int)<(List.length x:Int):=g; omega
     have b3:(0:Int)<=(k:Int)/\(k:Int)<(List.length x:Int):=by omega
     have b4:(0:Int)<=(k:Int)/\(k:Int)<(List.length y:Int):=by omega
     have tx:=take_get x k (zd fT) g
     have ty':=take_get y k (zd fT) (by omega)
     have hzf:(zd (Ty.bool.pair ((Ty.int IntKind.u32).slice.pair (Ty.int IntKind.u32).slice)))=zd fT:=rfl
     rw [hzf]
     have hxy:a=b->List.getD x k (zd fT)=List.getD y k (zd fT):=fun q=>by rw [<-hx,<-hy,q]
     generalize List.getD x k (zd fT)=f at *
     generalize List.getD y k (zd fT)=f' at *
     refine ⟨b1,b3,b2,b4,fun j=>?_,fun j=>?_⟩<;>simp only [Bool.not_eq_true',Bool.not_eq_false',decide_eq_true_eq,decide_eq_false_iff_not] at j
     ·rw [decide_eq_false (fun q=>j (by rw [hxy q]; exact ⟨rfl,rfl,rfl⟩))]
      exact ⟨rfl,trivial⟩
     ·have hff:f=f':=Prod.ext j.1 (Prod.ext j.2.1 j.2.2)
      refine ⟨by rw [inR_i64]; omega,hm2 _ (k+1) 2 ⟨g,by rw [tx,ty',htk,hff]⟩ (by omega) ?_⟩
      dsimp only [go_sem]
      simp
    ·have g:¬(k:Int)<(List.length x:Int):=g
     rw [List.take_of_length_le (by omega),List.take_of_length_le (by omega)] at htk
     refine ⟨by rw [inR_i64]; omega,hm _ (i+1) 2 ⟨d,by rw [ta,tb,ht,htk]⟩ (by omega) ?_⟩
     dsimp only [go_sem]
     simp
  ·have d:¬(i:Int)<(List.length a:Int):=d
   rw [List.take_of_length_le (by omega),List.take_of_length_le (by omega)] at ht
   rw [decide_eq_true ht]
   exact ⟨rfl,trivial⟩
@[go_sem] noncomputable def EWD:Env:=(EWC).add 10 rSaS
theorem EWD_ok:EWD.Ok:=(EWC_ok).add rSa_ok
end Go.Proofs.Ytbokoblnehgkaaa.Gx
namespace Go.Proofs.Ytbokoblnehgkaaa.Gx
open Go Go.RowKit Tw B Nt
set_option linter.unusedVariables false
set_option linter.unusedSimpArgs false
set_option maxHeartbeats 4000000
set_option maxRecDepth 20000
end Go.Proofs.Ytbokoblnehgkaaa.Gx
namespace Go.Proofs.Ytbokoblnehgkaaa.Gx
open Go Go.RowKit Tw B Nt
set_option linter.unusedVariables false
set_option linter.unusedSimpArgs false
set_option maxHeartbeats 4000000
set_option maxRecDepth 20000
theorem canB_bsb (n:Int):canB (bsb n)=bsb n:=by
 unfold canB bsb
 rw [List.map_map]
 refine List.map_congr_left fun k _=>?_
 show qf (fq (bsF n k))=bsF n k
 unfold bsF
 rw [fq_qf]
theorem canB_bspc (a:List Int):(bspc a).map canB=bspc a:=by
 have:(bspc a).map canB=(bspc a).map id:=List.map_congr_left fun b hb=>by
  obtain ⟨n,rfl⟩:=bspc_mem hb
  exact canB_bsb n
 rw [this,List.map_id]
end Go.Proofs.Ytbokoblnehgkaaa.Gx
