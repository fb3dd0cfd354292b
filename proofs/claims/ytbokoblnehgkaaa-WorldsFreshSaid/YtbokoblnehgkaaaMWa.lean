/-
  MWa: WP WQ W1 W2 W3 in one text.
-/
import Derived.Test.YtbokoblnehgkaaaMDb
import Derived.Test.YtbokoblnehgkaaaDN
namespace Go.Proofs.Ytbokoblnehgkaaa.Gx
open Go Go.RowKit Tw B Nt
set_option linter.unusedVariables false
set_option linter.unusedSimpArgs false
abbrev Blk:=List (Bool×List Int×List Int)
def rm (b:Blk):Rat:=1-qsum b
def okB (b:Blk):Bool:=decide (b.length<=16)&&(b.all fun f=>decide (0<=fq f))&&decide (0<=rm b)
def vld (s:List Blk):Bool:=decide (s.length<=4096)&&s.all okB
def prd:List Blk->Int
 | []=>1
 | b::s=>((b.length:Int)+1)*prd s
def cnt (s:List Blk):Int:=if vld s then prd s else 0
def wk:List Blk->List Int->Bool
 | [],[]=>true
 | b::s,c::w=>decide (-1<=c/\c<(b.length:Int))&&wk s w
 | _,_=>false
def cont (s:List Blk) (w:List Int):Bool:=wk s w&&vld s
def chq (b:Blk) (c:Int):Rat:=if c<0 then rm b else fq (b.getD c.toNat (false,[],[]))
def wpr:List Blk->List Int->Rat
 | b::s,c::w=>chq b c*wpr s w
 | _,_=>1
def chc (b:Blk) (d:Int):Int:=if d>=(b.length:Int) then -1 else d
def fst (s:List Blk):List Int:=s.map fun b=>chc b 0
def nxt:List Blk->List Int->Option (List Int)
 | b::s,c::w=>match nxt s w with
  | some v=>some (c::v)
  | none=>if c>=0 then some (chc b (c+1)::fst s) else none
 | _,_=>none
def po (b:Blk) (c:Int):Int:=if c<0 then (b.length:Int) else c
def ixF:List Blk->List Int->Int->Int
 | b::s,c::w,a=>ixF s w (a*((b.length:Int)+1)+po b c)
 | _,_,a=>a
def ixW (s:List Blk) (w:List Int):Int:=ixF s w 0
def atW:List Blk->Int->List Int×Int
 | [],n=>([],n)
 | b::s,n=>(chc b ((atW s n).2 % ((b.length:Int)+1))::(atW s n).1,(atW s n).2 / ((b.length:Int)+1))
theorem wk_len:∀ {s:List Blk} {w:List Int},wk s w=true->w.length=s.length
 | [],[],_=>rfl
 | b::s,c::w,h=>by
  rw [wk,Bool.and_eq_true] at h
  rw [List.length_cons,List.length_cons,wk_len h.2]
 | [],c::w,h=>by cases h
 | b::s,[],h=>by cases h
theorem wk_iff {s:List Blk} {w:List Int}:wk s w=true↔w.length=s.length/\∀ i,i<w.length->-1<=w.getD i 0/\w.getD i 0<((s.getD i []).length:Int):=by
 induction s generalizing w with
 | nil=>cases w with
  | nil=>simp [wk]
  | cons c w=>simp [wk]
 | cons b s ih=>cases w with
  | nil=>simp [wk]
  | cons c w =>
   rw [wk,Bool.and_eq_true,decide_eq_true_eq,ih]
   constructor
   ·rintro ⟨h1,h2,h3⟩
    refine ⟨by simp [h2],fun i hi=>?_⟩
    cases i with
    | zero=>exact h1
    | succ i=>exact h3 i (by simpa using hi)
   ·rintro ⟨h1,h2⟩
    exact ⟨h2 0 (by simp),by simpa using h1,fun i hi=>h2 (i+1) (by simpa using hi)⟩
theorem prd_pos:∀ s:List Blk,1<=prd s
 | []=>Int.le_refl _
 | b::s=>by
  have:=prd_pos s
  have h:=Int.mul_le_mul (show (1:Int)<=(b.length:Int)+1 by omega) this (by decide) (by omega)
  rw [prd]; omega
theorem prd_app (s t:List Blk):prd (s++t)=prd s*prd t:=by
 induction s with
 | nil=>rw [List.nil_append,prd,Int.one_mul]
 | cons b s ih=>rw [List.cons_append,prd,prd,ih,Int.mul_assoc]
theorem prd_snoc (s:List Blk) (b:Blk):prd (s++[b])=prd s*((b.length:Int)+1):=by
 rw [prd_app]; show _*(((b.length:Int)+1)*1)=_; rw [Int.mul_one]
theorem wpr_snoc:∀ {s:List Blk} {w:List Int} (b:Blk) (c:Int),w.length=s.length->wpr (s++[b]) (w++[c])=wpr s w*chq b c
 | [],[],b,c,_=>by
  show chq b c*1=1*chq b c
  rw [Rat.mul_one,Rat.one_mul]
 | b'::s,c'::w,b,c,h=>by
  show chq b' c'*wpr (s++[b]) (w++[c])=chq b' c'*wpr s w*chq b c
  rw [wpr_snoc b c (by simpa using h),Rat.mul_assoc]
 | [],_::_,_,_,h=>by simp at h
 | _::_,[],_,_,h=>by simp at h
theorem ixF_lin:∀ {s:List Blk} {w:List Int} (a:Int),w.length=s.length->ixF s w a=a*prd s+ixF s w 0
 | [],[],a,_=>by show a=a*1+0; omega
 | b::s,c::w,a,h=>by
  have h':w.length=s.length:=by simpa using h
  show ixF s w (a*((b.length:Int)+1)+po b c)=a*prd (b::s)+ixF s w (0*((b.length:Int)+1)+po b c)
  rw [ixF_lin _ h',ixF_lin (0*((b.length:Int)+1)+po b c) h',prd,Int.zero_mul,Int.zero_add,Int.add_mul,Int.mul_assoc,Int.add_assoc]
 | [],_::_,_,h=>by simp at h
 | _::_,[],_,h=>by simp at h
theorem po_chc {b:Blk} {d:Int} (h:0<=d/\d<=(b.length:Int)):po b (chc b d)=d /\ -1<=chc b d/\chc b d<(b.length:Int):=by
 unfold chc po
 split
 ·rw [if_pos (by decide)]; omega
 ·rw [if_neg (by omega)]; omega
theorem emod_mul2 (n L:Int) {P:Int} (hP:0<=P):n % (P*L)=n / P % L*P+n % P:=by
 rw [Int.emod_def,Int.emod_def,Int.emod_def,<-Int.ediv_ediv_of_nonneg hP,Int.sub_mul,Int.mul_comm P L,Int.mul_assoc L P,Int.mul_comm P (n / P / L),<-Int.mul_assoc L,Int.mul_comm P (n / P)]
 omega
theorem atW_ok:∀ (s:List Blk) (n:Int),0<=n->wk s (atW s n).1=true/\(atW s n).2=n / prd s/\ixW s (atW s n).1=n % prd s
 | [],n,h=>by
  refine ⟨rfl,?_,?_⟩
  ·show n=n / 1; omega
  ·show (0:Int)=n % 1; omega
 | b::s,n,h=>by
  obtain ⟨i1,i2,i3⟩:=atW_ok s n h
  have hP:=prd_pos s
  have hL:(0:Int)<(b.length:Int)+1:=by omega
  have hr0:0<=(atW s n).2:=by rw [i2]; exact Int.ediv_nonneg h (by omega)
  have hm:=Int.emod_nonneg (atW s n).2 (show (b.length:Int)+1≠0 by omega)
  have hm2:=Int.emod_lt_of_pos (atW s n).2 hL
  obtain ⟨p1,p2,p3⟩:=po_chc (b:=b) (d:=(atW s n).2 % ((b.length:Int)+1)) ⟨hm,by omega⟩
  refine ⟨?_,?_,?_⟩
  ·show (decide (_/\_)&&wk s (atW s n).1)=true
   rw [i1,Bool.and_true]
   exact decide_eq_true ⟨p2,p3⟩
  ·show (atW s n).2 / ((b.length:Int)+1)=n / prd (b::s)
   rw [i2,Int.ediv_ediv_of_nonneg (by omega),prd,Int.mul_comm (prd s)]
  ·show ixF s (atW s n).1 (0*((b.length:Int)+1)+po b _)=_
   rw [ixF_lin _ (wk_len i1),p1,Int.zero_mul,Int.zero_add]
   show _*prd s+ixW s (atW s n).1=_
   rw [i3,i2,prd,Int.mul_comm ((b.length:Int)+1),emod_mul2 n _ (show 0<=prd s by omega)]
end Go.Proofs.Ytbokoblnehgkaaa.Gx
namespace Go.Proofs.Ytbokoblnehgkaaa.Gx
open Go Go.RowKit Tw B Nt
set_option linter.unusedVariables false
set_option linter.unusedSimpArgs false
end Go.Proofs.Ytbokoblnehgkaaa.Gx
namespace Go.Proofs.Ytbokoblnehgkaaa.Gx
open Go Go.RowKit Tw B Nt
set_option linter.unusedVariables false
set_option linter.unusedSimpArgs false
set_option maxHeartbeats 4000000
set_option maxRecDepth 20000
@[reducible,go_sem] def bkT:Ty:=.one (.slice fT)
@[reducible,go_sem] def spT:Ty:=.one (.slice (.one (.slice fT)))
@[reducible,go_sem] def wdT:Ty:=.slice (.int .i64)
def bkP (b:Blk):Prop:=b.length<=100/\∀ f∈b,fs f<=1000
def spP (s:List Blk):Prop:=s.length<=5000/\∀ b∈s,bkP b
theorem u64R' {n:Int}:inR .u64 n↔0<=n/\n<=18446744073709551615:=Iff.rfl
theorem rm_sz {b:Blk} (hd:∀ f∈b,wfD fT f) (h:bkP b):fs (qf (qsum b))<=100201/\qs (rm b)<=100203:=by
 have h1:=(qs_bs hd h.2 b.length (Nat.le_refl _)).1
 rw [List.take_length] at h1
 have h2:=h.1
 have h3:=qs_sub 1 (qsum b)
 have h4:=qs_one
 refine ⟨by rw [fs_qf]; omega,?_⟩
 unfold rm
 omega
theorem wsgQ_lt {q:Rat}:sgQ q<0↔¬0<=q:=by
 unfold sgQ
 rw [<-Rat.num_nonneg]
 rcases Int.lt_trichotomy q.num 0 with h|h|h
 ·rw [Int.sign_eq_neg_one_of_neg h]; omega
 ·rw [h]; decide
 ·rw [Int.sign_eq_one_of_pos h]; omega
theorem all_snoc {α:Type} {p:α->Bool} {l:List α} {i:Nat} (d:α) (hi:i<l.length):(l.take (i+1)).all p=((l.take i).all p&&p (l.getD i d)):=by
 rw [take_get l i d hi,List.all_append]
 simp
theorem all_bad {α:Type} {p:α->Bool} {l:List α} {i:Nat} (d:α) (hi:i<l.length) (h:p (l.getD i d)=false):l.all p=false:=by
 rw [List.all_eq_false]
 refine ⟨_,?_,by rw [h]; decide⟩
 rw [List.getD_eq_getElem?_getD,List.getElem?_eq_getElem hi]
 exact List.getElem_mem _
theorem getD_mem {α:Type} {l:List α} {i:Nat} (d:α) (hi:i<l.length):l.getD i d∈l:=by
 rw [List.getD_eq_getElem?_getD,List.getElem?_eq_getElem hi]
 exact List.getElem_mem _
@[go_sem] def wChsS:Spec:=⟨[bkT],fun d=>(.dat nT (dg ((List.length d.1:Int)+1)),[List.length d.1<=1000000])⟩
theorem wChs_ok:SpecOk Try.prog 40 wChsS:=by
 refine fn_ok E6_ok wChsS Try.func40 rfl (by decide) (N:=9) rfl (res:=[.tmp 2]) rfl (by decide) [] [] [] 100 (by kernel_rfl) ?_
 rintro ⟨b,_⟩ hw hp
 refine ⟨rfl,fun H hH=>?_⟩
 dsimp only [go_sem] at hw hp ⊢
 obtain ⟨hp,-⟩:=hp
 exact ⟨by rw [u64R']; omega,by rw [u64R']; omega,rfl,trivial⟩
@[go_sem] def wChcS:Spec:=⟨[bkT,.int .i64],fun d=>(.dat (.int .i64) (chc d.1 d.2.1),[])⟩
theorem wChc_ok:SpecOk Try.prog 18 wChcS:=by
 refine fn_ok E6_ok wChcS Try.func18 rfl (by decide) (N:=11) rfl (res:=[.tmp 4]) rfl (by decide) [] [] [] 100 (by kernel_rfl) ?_
 rintro ⟨b,(p:Int),_⟩ hw hp
 refine ⟨rfl,fun H hH=>?_⟩
 dsimp only [go_sem] at hw hp ⊢
 refine ⟨fun h=>⟨?_,trivial⟩,fun h=>⟨?_,trivial⟩⟩<;>simp only [decide_eq_true_eq,decide_eq_false_iff_not] at h<;>unfold chc
 ·rw [if_pos h]
 ·rw [if_neg (by exact h)]
@[go_sem] def wRemS:Spec:=⟨[bkT],fun d=>(.dat fT (qf (rm d.1)),[bkP d.1])⟩
theorem wRem_ok:SpecOk Try.prog 33 wRemS:=by
 refine fn_ok E6_ok wRemS Try.func33 rfl (by decide) (N:=7) rfl (res:=[.cell 2 41]) rfl (by decide) [] [] [] 100 (by kernel_rfl) ?_
 rintro ⟨b,_⟩ hw hp
 refine ⟨rfl,fun H hH=>?_⟩
 dsimp only [go_sem] at hw hp ⊢
 obtain ⟨⟨h1,h2⟩,-⟩:=hp
 obtain ⟨q1,q2⟩:=rm_sz hw.1.2 ⟨h1,h2⟩
 refine ⟨Nat.le_trans h1 (by decide),h2,Nat.le_trans q1 (by decide),?_,trivial⟩
 rw [fq_qf]; rfl
@[go_sem] noncomputable def EW1:Env:=(((((E6).add 40 wChsS).add 18 wChcS).add 33 wRemS).add 44 qMulS).add 43 qNewS
theorem EW1_ok:EW1.Ok:=(((((E6_ok).add wChs_ok).add wChc_ok).add wRem_ok).add qMul_ok).add qNew_ok
@[go_sem] def wValS:Spec:=⟨[spT],fun d=>(.dat .bool (vld d.1),[spP d.1])⟩
theorem wVal_ok:SpecOk Try.prog 19 wValS:=by
 refine fn_ok EW1_ok wValS Try.func19 rfl (by decide) (N:=38) rfl (res:=[.tmp 2]) rfl (by decide) [] [] [] 100 (by kernel_rfl) ?_
 rintro ⟨s,_⟩ hw hp
 refine ⟨rfl,fun H hH=>?_⟩
 dsimp only [go_sem] at hw hp ⊢
 obtain ⟨⟨hs1,hs2⟩,-⟩:=hp
 have hwb:∀ b∈s,∀ f∈b,wfD fT f:=fun b hb=>(hw.1.2 b hb).2
 have hv:vld s=(decide (List.length s<=4096)&&List.all s okB):=rfl
 refine ⟨fun h=>?_,fun h=>?_⟩<;>simp only [decide_eq_true_eq,decide_eq_false_iff_not] at h
 ·rw [hv,decide_eq_false (by omega)]
  exact ⟨rfl,trivial⟩
 rw [decide_eq_true (by omega),Bool.true_and] at hv
 refine hH.loop (fun i:Nat=>⟨[(12,.dat (.slice bkT) s),(13,.dat (.int .i64) (List.length s:Int)),(14,.dat (.int .i64) (i:Int))],[],0⟩) (fun i=>i<=List.length s/\(List.take i s).all okB=true) (fun i=>List.length s-i) 0 0 ⟨Nat.zero_le _,rfl⟩ ?_ ?_
 ·dsimp only [go_sem]
  simp
 ·intro i ⟨hi,hall⟩ R hm
  refine hH.run 100 _ _ ?_
  dsimp only [go_sem]
  refine ⟨fun d=>?_,fun d=>?_⟩<;>simp only [decide_eq_true_eq,decide_eq_false_iff_not] at d
  ·have d:i<List.length s:=by omega
   have hmem:=getD_mem (l:=s) (zd bkT) d
   have hsn:=all_snoc (p:=okB) (l:=s) (zd bkT) d
   have hbad:=all_bad (p:=okB) (l:=s) (zd bkT) d
   rw [Int.toNat_natCast]
   generalize List.getD s i (zd bkT)=b at *
   obtain ⟨hb1,hb2⟩:=hs2 b hmem
   have hwf:=hwb b hmem
   have hob:okB b=(decide (List.length b<=16)&&(b.all fun f=>decide (0<=fq f))&&decide (0<=rm b)):=rfl
   have b1:(0:Int)<=(i:Int)/\(i:Int)<(List.length s:Int):=by omega
   refine ⟨b1,fun g=>?_,fun g=>?_⟩<;>simp only [decide_eq_true_eq,decide_eq_false_iff_not] at g
   ·rw [hv,hbad (by rw [hob,decide_eq_false (by omega)]; rfl)]
    exact ⟨rfl,trivial⟩
   rw [decide_eq_true (by omega),Bool.true_and] at hob
   refine hH.loop (fun k:Nat=>⟨[(12,.dat (.slice bkT) s),(13,.dat (.int .i64) (List.length s:Int)),(14,.dat (.int .i64) (i:Int)),(4,.ref 0 0),(23,.dat (.slice fT) b),(24,.dat (.int .i64) (List.length b:Int)),(25,.dat (.int .i64) (k:Int))],[(0,.box 37 (.cons (.dat (.slice fT) b) .nil))],1⟩) (fun k=>k<=List.length b/\(List.take k b).all (fun f=>decide (0<=fq f))=true) (fun k=>List.length b-k) 0 1 ⟨Nat.zero_le _,rfl⟩ ?_ ?_
   ·dsimp only [go_sem]
    simp
   ·intro k ⟨hk,hka⟩ R2 hm2
    refine hH.run 100 _ _ ?_
    dsimp only [go_sem]
    rw [Int.toNat_natCast]
    refine ⟨fun e=>?_,fun e=>?_⟩<;>simp only [decide_eq_true_eq,decide_eq_false_iff_not] at e
    ·have e:k<List.length b:=by omega
     have fmem:=getD_mem (l:=b) (zd fT) e
     have fsn:=all_snoc (p:=fun f=>decide (0<=fq f)) (l:=b) (zd fT) e
     have fbad:=all_bad (p:=fun f=>decide (0<=fq f)) (l:=b) (zd fT) e
     have hz:(zd (Ty.bool.pair ((Ty.int IntKind.u32).slice.pair (Ty.int IntKind.u32).slice)))=zd fT:=rfl
     rw [hz]
     generalize List.getD b k (zd fT)=f at *
     have b2:(0:Int)<=(k:Int)/\(k:Int)<(List.length b:Int):=by omega
     refine ⟨b2,Nat.le_trans (hb2 f fmem) (by decide),fun j=>?_,fun j=>?_⟩<;>simp only [decide_eq_true_eq,decide_eq_false_iff_not] at j
     ·rw [wsgQ_lt] at j
      rw [hv,hbad (by rw [hob,fbad (decide_eq_false j)]; rfl)]
      exact ⟨rfl,trivial⟩
     ·rw [wsgQ_lt,Decidable.not_not] at j
      refine ⟨by rw [inR_i64]; omega,hm2 _ (k+1) 1 ⟨e,by rw [fsn,hka,decide_eq_true j]; rfl⟩ (by omega) ?_⟩
      dsimp only [go_sem]
      simp
    ·have hka2:(b.all fun f=>decide (0<=fq f))=true:=by rw [List.take_of_length_le (by omega)] at hka; exact hka
     rw [hka2,Bool.true_and] at hob
     have hsz:=rm_sz hwf ⟨hb1,hb2⟩
     refine ⟨⟨hb1,hb2⟩,by rw [fs_qf]; omega,fun j=>?_,fun j=>?_⟩<;>simp only [decide_eq_true_eq,decide_eq_false_iff_not] at j<;>rw [fq_qf,wsgQ_lt] at j
     ·rw [hv,hbad (by rw [hob]; exact decide_eq_false j)]
      exact ⟨rfl,trivial⟩
     ·rw [Decidable.not_not] at j
      refine ⟨by rw [inR_i64]; omega,hm _ (i+1) 0 ⟨d,by rw [hsn,hall,hob]; exact decide_eq_true j⟩ (by omega) ?_⟩
      dsimp only [go_sem]
      simp
  ·rw [List.take_of_length_le (by omega)] at hall
   rw [hv,hall]
   exact ⟨rfl,trivial⟩
@[go_sem] noncomputable def EW2:Env:=(EW1).add 19 wValS
theorem EW2_ok:EW2.Ok:=(EW1_ok).add wVal_ok
end Go.Proofs.Ytbokoblnehgkaaa.Gx
namespace Go.Proofs.Ytbokoblnehgkaaa.Gx
open Go Go.RowKit Tw B Nt
set_option linter.unusedVariables false
set_option linter.unusedSimpArgs false
set_option maxHeartbeats 4000000
set_option maxRecDepth 20000
theorem prd_lt:∀ (s:List Blk),(∀ b∈s,b.length<=100)->prd s<=Bp s.length
 | [],_=>Int.le_refl _
 | b::s,h=>by
  have ih:=prd_lt s fun b hb=>h b (List.mem_cons_of_mem _ hb)
  have hb:=h b (List.mem_cons_self ..)
  have hP:=prd_pos s
  have h1:=Int.mul_le_mul (show (b.length:Int)+1<=4294967296 by omega) ih (by omega) (by decide)
  rw [prd,List.length_cons]
  exact h1
theorem Bp_strict {m n:Nat} (h:m<n):Bp m<Bp n:=by
 have h1:=Bp_mono (show m+1<=n from h)
 have h2:=Bp_pos m
 have h3:Bp (m+1)=4294967296*Bp m:=rfl
 omega
theorem take_get0 {w:List Int} {i:Nat} (h:i<w.length):w.take (i+1)=w.take i++[w.getD i 0]:=take_get w i 0 h
theorem len_take {α:Type} {l:List α} {i:Nat} (h:i<=l.length):(l.take i).length=i:=by rw [List.length_take]; omega
@[go_sem] def wCntS:Spec:=⟨[spT],fun d=>(.dat nT (dg (cnt d.1)),[spP d.1/\List.length d.1<=1000])⟩
theorem wCnt_ok:SpecOk Try.prog 27 wCntS:=by
 refine fn_ok EW2_ok wCntS Try.func27 rfl (by decide) (N:=23) rfl (res:=[.tmp 2]) rfl (by decide) [] [] [] 100 (by kernel_rfl) ?_
 rintro ⟨s,_⟩ hw hp
 refine ⟨rfl,fun H hH=>?_⟩
 dsimp only [go_sem] at hw hp ⊢
 obtain ⟨⟨hs,hl⟩,-⟩:=hp
 have hc:cnt s=if vld s then prd s else 0:=rfl
 refine ⟨hs,fun h=>?_,fun h=>?_⟩<;>simp only [Bool.not_eq_true',Bool.not_eq_false'] at h
 ·rw [hc,if_neg (by rw [h]; decide)]
  exact ⟨rfl,trivial⟩
 rw [if_pos h] at hc
 have hk:∀ b∈s,List.length b<=100:=fun b hb=>(hs.2 b hb).1
 refine hH.loop (fun i:Nat=>⟨[(3,.dat nT (dg (prd (List.take i s)))),(11,.dat (.slice bkT) s),(12,.dat (.int .i64) (List.length s:Int)),(13,.dat (.int .i64) (i:Int))],[],0⟩) (fun i=>i<=List.length s) (fun i=>List.length s-i) 0 0 (Nat.zero_le _) ?_ ?_
 ·dsimp only [go_sem]
  simp [prd]
 ·intro i hi R hm
  refine hH.run 100 _ _ ?_
  dsimp only [go_sem]
  rw [Int.toNat_natCast]
  refine ⟨fun d=>?_,fun d=>?_⟩<;>simp only [decide_eq_true_eq,decide_eq_false_iff_not] at d
  ·have d:i<List.length s:=by omega
   have hmem:=getD_mem (l:=s) (zd bkT) d
   have htk:=take_get s i (zd bkT) d
   generalize List.getD s i (zd bkT)=b at *
   have hb:=hk b hmem
   have hP:=prd_pos (List.take i s)
   have e:=prd_snoc (List.take i s) b
   rw [<-htk] at e
   have hp1:=prd_lt (List.take i s) (fun b hb=>hk b (List.mem_of_mem_take hb))
   have hlt:(List.take i s).length<=1000:=by rw [List.length_take]; omega
   have b1:(0:Int)<=(i:Int)/\(i:Int)<(List.length s:Int):=by omega
   rw [N_dg (by omega),N_dg (by omega),<-e]
   have h1l:=dg_len (n:=prd (List.take i s)) (c:=1001) (by omega) (Int.lt_of_le_of_lt hp1 (Bp_strict (by omega)))
   have h2l:=dg_len (n:=(List.length b:Int)+1) (c:=1) (by omega) (by show (List.length b:Int)+1<4294967296*1; omega)
   refine ⟨b1,by omega,by omega,by omega,by rw [inR_i64]; omega,hm _ (i+1) 0 d (by omega) ?_⟩
   dsimp only [go_sem]
   simp
  ·rw [hc,List.take_of_length_le (by omega)]
   exact ⟨rfl,trivial⟩
@[go_sem] def wConS:Spec:=⟨[spT,wdT],fun d=>(.dat .bool (cont d.1 d.2.1),[spP d.1])⟩
theorem wCon_ok:SpecOk Try.prog 17 wConS:=by
 refine fn_ok EW2_ok wConS Try.func17 rfl (by decide) (N:=39) rfl (res:=[.tmp 4]) rfl (by decide) [] [] [] 100 (by kernel_rfl) ?_
 rintro ⟨s,w,_⟩ hw hp
 refine ⟨rfl,fun H hH=>?_⟩
 dsimp only [go_sem] at hw hp ⊢
 obtain ⟨hs,-⟩:=hp
 have hc:cont s w=(wk s w&&vld s):=rfl
 refine ⟨fun h=>?_,fun h=>?_⟩<;>simp only [decide_eq_true_eq,decide_eq_false_iff_not] at h
 ·have:wk s w=false:=by
    rw [Bool.eq_false_iff]
    intro hw
    have:=wk_len hw
    omega
  rw [hc,this]
  exact ⟨rfl,trivial⟩
 have hl:List.length w=List.length s:=by omega
 refine hH.loop (fun i:Nat=>⟨[(1,.dat wdT w),(2,.ref 0 0),(14,.dat (.slice bkT) s),(15,.dat (.int .i64) (List.length s:Int)),(16,.dat (.int .i64) (i:Int))],[(0,.box 25 (.cons (.dat (.slice bkT) s) .nil))],1⟩) (fun i=>i<=List.length s/\∀ j,j<i->-1<=List.getD w j 0/\List.getD w j 0<((List.getD s j []).length:Int)) (fun i=>List.length s-i) 0 1 ⟨Nat.zero_le _,fun j hj=>absurd hj (Nat.not_lt_zero _)⟩ ?_ ?_
 ·dsimp only [go_sem]
  simp
 ·intro i ⟨hi,hall⟩ R hm
  refine hH.run 100 _ _ ?_
  dsimp only [go_sem]
  rw [Int.toNat_natCast]
  have hz:(zd (Ty.int IntKind.i64))=(0:Int):=rfl
  rw [hz]
  refine ⟨fun d=>?_,fun d=>?_⟩<;>simp only [decide_eq_true_eq,decide_eq_false_iff_not] at d
  ·have d:i<List.length s:=by omega
   have hzb:List.getD s i (zd bkT)=List.getD s i []:=rfl
   rw [hzb]
   have b1:(0:Int)<=(i:Int)/\(i:Int)<(List.length s:Int):=by omega
   have b2:(0:Int)<=(i:Int)/\(i:Int)<(List.length w:Int):=by omega
   refine ⟨b1,b2,fun h=>h,fun h=>h,fun _=>b2,fun h=>h,fun h=>h,fun h=>h,fun h=>h,fun h=>h,fun h=>h,fun e=>?_,fun e=>?_⟩
   ·have:wk s w=false:=by
      rw [Bool.eq_false_iff]
      intro hwk
      have:=(wk_iff.1 hwk).2 i (by omega)
      simp only [Bool.or_eq_true,decide_eq_true_eq] at e
      omega
    rw [hc,this]
    exact ⟨rfl,trivial⟩
   ·simp only [Bool.or_eq_false_iff,decide_eq_false_iff_not] at e
    refine ⟨by rw [inR_i64]; omega,hm _ (i+1) 1 ⟨d,fun j hj=>?_⟩ (by omega) ?_⟩
    ·rcases Nat.lt_or_ge j i with h'|h'
     ·exact hall j h'
     ·have:j=i:=by omega
      subst this
      exact ⟨Int.not_lt.1 e.1,Int.not_le.1 e.2⟩
    ·dsimp only [go_sem]
     simp
  ·have:wk s w=true:=wk_iff.2 ⟨hl,fun j hj=>hall j (by omega)⟩
   rw [hc,this,Bool.true_and]
   exact ⟨hs,rfl,trivial⟩
@[go_sem] noncomputable def EW3:Env:=((EW2).add 27 wCntS).add 17 wConS
theorem EW3_ok:EW3.Ok:=((EW2_ok).add wCnt_ok).add wCon_ok
def prW (s:List Blk) (w:List Int):fT.den×Int:=if cont s w then (qf (wpr s w),0) else ((false,[],[]),1)
@[go_sem] def wPrS:Spec:=⟨[spT,wdT],fun d=>(.tup (.cons (.dat fT (prW d.1 d.2.1).1) (.cons (.dat (.int .i64) (prW d.1 d.2.1).2) .nil)),[spP d.1/\List.length d.1<=30])⟩
theorem wPr_ok:SpecOk Try.prog 25 wPrS:=by
 refine fn_ok EW3_ok wPrS Try.func25 rfl (by decide) (N:=48) rfl (res:=[.cell 4 41,.tmp 5]) rfl (by decide) [] [] [] 100 (by kernel_rfl) ?_
 rintro ⟨s,w,_⟩ hw hp
 refine ⟨rfl,fun H hH=>?_⟩
 dsimp only [go_sem] at hw hp ⊢
 obtain ⟨⟨hs,hl⟩,-⟩:=hp
 have hr:prW s w=if cont s w then (qf (wpr s w),0) else ((false,[],[]),1):=rfl
 refine ⟨hs,fun h=>?_,fun h=>?_⟩<;>simp only [Bool.not_eq_true',Bool.not_eq_false'] at h
 ·rw [if_neg (by rw [h]; decide)] at hr
  simp [hr]
 rw [if_pos h] at hr
 have hkw:=h
 unfold cont at hkw
 rw [Bool.and_eq_true,wk_iff] at hkw
 obtain ⟨⟨hlw,hrng⟩,-⟩:=hkw
 have h1:(if (1:Int)=0 then f0 else qf (Rat.divInt 1 1))=qf 1:=by decide +kernel
 rw [h1]
 have hwb:∀ b∈s,∀ f∈b,wfD fT f:=fun b hb=>(hw.1.2 b hb).2
 refine hH.loop (fun i:Nat=>⟨[(1,.dat wdT w),(4,.ref 1 0),(6,.ref 2 0),(20,.dat (.slice bkT) s),(21,.dat (.int .i64) (List.length s:Int)),(22,.dat (.int .i64) (i:Int))],[(1,.box 41 (zA fT .nil)),(2,.box 41 (dA fT (qf (wpr (List.take i s) (List.take i w))) .nil))],3⟩) (fun i=>i<=List.length s/\qs (wpr (List.take i s) (List.take i w))<=100210*i+1) (fun i=>List.length s-i) 0 3 ⟨Nat.zero_le _,qs_one⟩ ?_ ?_
 ·dsimp only [go_sem]
  simp [wpr]
 ·intro i ⟨hi,hq⟩ R hm
  refine hH.run 100 _ _ ?_
  dsimp only [go_sem]
  rw [Int.toNat_natCast]
  have hz:(zd (Ty.int IntKind.i64))=(0:Int):=rfl
  rw [hz]
  refine ⟨fun d=>?_,fun d=>?_⟩<;>simp only [decide_eq_true_eq,decide_eq_false_iff_not] at d
  ·have d:i<List.length s:=by omega
   have hr0:=hrng i (by omega)
   have hzb:List.getD s i (zd bkT)=List.getD s i []:=rfl
   rw [hzb]
   have hmem:=getD_mem (l:=s) [] d
   have htk:=take_get s i [] d
   have htw:=take_get0 (w:=w) (i:=i) (by omega)
   generalize List.getD s i []=b at *
   generalize List.getD w i 0=c at *
   have e:=wpr_snoc (s:=List.take i s) (w:=List.take i w) b c (by rw [len_take (by omega),len_take (by omega)])
   rw [<-htk,<-htw] at e
   obtain ⟨hb1,hb2⟩:=hs.2 b hmem
   obtain ⟨z1,z2⟩:=rm_sz (hwb b hmem) ⟨hb1,hb2⟩
   have b1:(0:Int)<=(i:Int)/\(i:Int)<(List.length s:Int):=by omega
   have b2:(0:Int)<=(i:Int)/\(i:Int)<(List.length w:Int):=by omega
   rw [fq_qf,fq_qf]
   have hmul:=qs_mul (wpr (List.take i s) (List.take i w)) (chq b c)
   rw [<-e] at hmul
   have hqi:qs (wpr (List.take i s) (List.take i w))<=5000000:=by omega
   refine ⟨b1,b2,fun g=>?_,fun g=>?_⟩<;>simp only [decide_eq_true_eq,decide_eq_false_iff_not] at g
   ·have hch:chq b c=rm b:=by unfold chq; rw [if_pos g]
    rw [hch] at e hmul
    refine ⟨⟨hb1,hb2⟩,hqi,by rw [fs_qf]; omega,by rw [inR_i64]; omega,hm _ (i+1) 3 ⟨d,by omega⟩ (by omega) ?_⟩
    dsimp only [go_sem]
    rw [e]
    simp
   ·have hch:chq b c=fq (b.getD c.toNat (false,[],[])):=by unfold chq; rw [if_neg g]
    have hzf:List.getD b c.toNat (zd (Ty.bool.pair ((Ty.int IntKind.u32).slice.pair (Ty.int IntKind.u32).slice)))=b.getD c.toNat (false,[],[]):=rfl
    have hfm:=getD_mem (l:=b) (i:=c.toNat) (false,[],[]) (by omega)
    have hsf:=hb2 _ hfm
    have hqf:=qs_fq (fd_of (hwb b hmem _ hfm))
    rw [hch] at e hmul
    rw [hzf]
    refine ⟨b2,⟨Int.not_lt.1 g,hr0.2⟩,hqi,by omega,by rw [inR_i64]; omega,hm _ (i+1) 3 ⟨d,by omega⟩ (by omega) ?_⟩
    dsimp only [go_sem]
    rw [e]
    simp
  ·rw [List.take_of_length_le (by omega),List.take_of_length_le (by omega)]
   rw [hr]
   simp
@[go_sem] noncomputable def EW4:Env:=(EW3).add 25 wPrS
theorem EW4_ok:EW4.Ok:=(EW3_ok).add wPr_ok
end Go.Proofs.Ytbokoblnehgkaaa.Gx
namespace Go.Proofs.Ytbokoblnehgkaaa.Gx
open Go Go.RowKit Tw B Nt
set_option linter.unusedVariables false
set_option linter.unusedSimpArgs false
set_option maxHeartbeats 4000000
set_option maxRecDepth 20000
theorem set_rep (A:List Int) (x:Int) (n:Nat) {i:Nat} (h:A.length=i):(A++List.replicate (n+1) (0:Int)).set i x=(A++[x])++List.replicate n 0:=by
 subst h
 rw [List.replicate_succ,List.set_append,if_neg (by omega),Nat.sub_self,List.append_assoc]
 rfl
theorem cnt_len {s:List Blk} (hs:spP s) (hl:s.length<=1000):(dg (cnt s)).length<=1001:=by
 have h1:=prd_pos s
 have h2:=prd_lt s fun b hb=>(hs.2 b hb).1
 have h3:=Bp_mono hl
 have h4:=Bp_strict (show 1000<1001 by omega)
 refine dg_len ?_ ?_
 ·unfold cnt; split<;>omega
 ·unfold cnt; split<;>omega
theorem drop_g {α:Type} (l:List α) (d:α) {j:Nat} (h:j<l.length):l.drop j=l.getD j d::l.drop (j+1):=by
 rw [List.drop_eq_getElem_cons h,List.getD_eq_getElem?_getD,List.getElem?_eq_getElem h]; rfl
theorem nxt_drop:∀ {j:Nat} {s:List Blk} {w v:List Int},nxt (s.drop j) (w.drop j)=some v->nxt s w=some (w.take j++v)
 | 0,s,w,v,h=>h
 | j+1,[],w,v,h=>by
  rw [List.drop_nil] at h
  cases h':w.drop (j+1)<;>rw [h'] at h<;>cases h
 | j+1,b::s,[],v,h=>by
  rw [List.drop_nil,List.drop_succ_cons] at h
  cases h':s.drop j<;>rw [h'] at h<;>cases h
 | j+1,b::s,c::w,v,h=>by
  have h:nxt (s.drop j) (w.drop j)=some v:=h
  rw [nxt,nxt_drop h]
  rfl
def fsR (s:List Blk):List Int:=if vld s then fst s else []
@[go_sem] def wFsS:Spec:=⟨[spT],fun d=>(.dat wdT (fsR d.1),[spP d.1])⟩
theorem wFs_ok:SpecOk Try.prog 7 wFsS:=by
 refine fn_ok EW4_ok wFsS Try.func7 rfl (by decide) (N:=28) rfl (res:=[.tmp 2]) rfl (by decide) [] [(9,[1])] [] 100 (by kernel_rfl) ?_
 rintro ⟨s,_⟩ hw hp
 refine ⟨rfl,fun H hH=>?_⟩
 dsimp only [go_sem] at hw hp ⊢
 obtain ⟨hs,-⟩:=hp
 have hr:fsR s=if vld s then fst s else []:=rfl
 refine ⟨hs,fun h=>?_,fun h=>?_⟩<;>simp only [Bool.not_eq_true',Bool.not_eq_false'] at h
 ·rw [hr,if_neg (by rw [h]; decide)]
  exact ⟨rfl,trivial⟩
 rw [if_pos h] at hr
 have hsl:=hs.1
 refine ⟨⟨Int.natCast_nonneg _,Int.le_refl _,by show (8:Int)*(List.length s:Int)<=140737488355328; omega⟩,?_⟩
 rw [Int.toNat_natCast]
 have hz:(zd (Ty.int IntKind.i64))=(0:Int):=rfl
 rw [hz]
 refine hH.loop (fun i:Nat=>⟨[(3,.own 1),(14,.dat (.slice bkT) s),(15,.dat (.int .i64) (List.length s:Int)),(16,.dat (.int .i64) (i:Int))],[(1,.row 3 (.int .i64) (fst (List.take i s)++List.replicate (List.length s-i) 0))],2⟩) (fun i=>i<=List.length s) (fun i=>List.length s-i) 0 2 (Nat.zero_le _) ?_ ?_
 ·dsimp only [go_sem]
  simp [fst]
 ·intro i hi R hm
  refine hH.run 100 _ _ ?_
  dsimp only [go_sem]
  rw [Int.toNat_natCast]
  refine ⟨fun d=>?_,fun d=>?_⟩<;>simp only [decide_eq_true_eq,decide_eq_false_iff_not] at d
  ·have d:i<List.length s:=by omega
   have hzb:List.getD s i (zd bkT)=List.getD s i []:=rfl
   rw [hzb]
   have htk:=take_get s i [] d
   generalize List.getD s i []=b at *
   have e:=set_rep (fst (List.take i s)) (chc b 0) (List.length s-(i+1)) (i:=i) (by unfold fst; rw [List.length_map,len_take (by omega)])
   rw [show List.length s-(i+1)+1=List.length s-i by omega] at e
   have e2:fst (List.take (i+1) s)=fst (List.take i s)++[chc b 0]:=by rw [htk]; unfold fst; rw [List.map_append]; rfl
   have hlen:(fst (List.take i s)++List.replicate (List.length s-i) (0:Int)).length=List.length s:=by
    unfold fst; rw [List.length_append,List.length_map,len_take (by omega),List.length_replicate]; omega
   rw [hlen,e]
   have b1:(0:Int)<=(i:Int)/\(i:Int)<(List.length s:Int):=by omega
   refine ⟨b1,b1,d,by rw [inR_i64]; omega,hm _ (i+1) 2 d (by omega) ?_⟩
   dsimp only [go_sem]
   rw [e2]
   simp
  ·rw [List.take_of_length_le (by omega),show List.length s-i=0 by omega,List.replicate_zero,List.append_nil]
   rw [hr]
   exact ⟨rfl,trivial⟩
def nxR (s:List Blk) (w:List Int):List Int×Bool:=if cont s w then (match nxt s w with|some v=>(v,true)|none=>([],false)) else ([],false)
@[go_sem] def wNxS:Spec:=⟨[spT,wdT],fun d=>(.tup (.cons (.dat wdT (nxR d.1 d.2.1).1) (.cons (.dat .bool (nxR d.1 d.2.1).2) .nil)),[spP d.1])⟩
theorem wNx_ok:SpecOk Try.prog 6 wNxS:=by
 refine fn_ok EW4_ok wNxS Try.func6 rfl (by decide) (N:=52) rfl (res:=[.tmp 4,.tmp 5]) rfl (by decide) [] [(11,[1])] [] 100 (by kernel_rfl) ?_
 rintro ⟨s,w,_⟩ hw hp
 refine ⟨rfl,fun H hH=>?_⟩
 dsimp only [go_sem] at hw hp ⊢
 obtain ⟨hs,-⟩:=hp
 have hr:nxR s w=if cont s w then (match nxt s w with|some v=>(v,true)|none=>([],false)) else ([],false):=rfl
 refine ⟨hs,fun h=>?_,fun h=>?_⟩<;>simp only [Bool.not_eq_true',Bool.not_eq_false'] at h
 ·rw [if_neg (by rw [h]; decide)] at hr
  simp [hr]
 rw [if_pos h] at hr
 have hkw:=h
 unfold cont at hkw
 rw [Bool.and_eq_true,wk_iff] at hkw
 obtain ⟨⟨hlw,hrng⟩,-⟩:=hkw
 have hsl:=hs.1
 rw [Int.toNat_natCast,List.length_replicate]
 refine ⟨⟨Int.natCast_nonneg _,Int.le_refl _,by show (8:Int)*(List.length w:Int)<=140737488355328; omega⟩,rfl,by rw [inR_i64]; omega,?_⟩
 refine hH.loop (fun k:Nat=>⟨[(2,.ref 0 0),(6,.own 1),(7,.dat (.int .i64) ((k:Int)-1))],[(0,.box 25 (.cons (.dat (.slice bkT) s) .nil)),(1,.row 3 (.int .i64) (List.take k w++fst (List.drop k s)))],2⟩) (fun k=>k<=List.length s/\nxt (List.drop k s) (List.drop k w)=none) (fun k=>k) (List.length s) 2 ⟨Nat.le_refl _,?_⟩ ?_ ?_
 ·rw [List.drop_length,<-hlw,List.drop_length]; rfl
 ·rw [<-hlw,List.take_length]
  have:fst (List.drop (List.length w) s)=[]:=by rw [hlw,List.drop_length]; rfl
  rw [this]
  dsimp only [go_sem]
  simp
 ·intro k ⟨hk,hn⟩ R hm
  refine hH.run 100 _ _ ?_
  dsimp only [go_sem]
  have hz:(zd (Ty.int IntKind.i64))=(0:Int):=rfl
  rw [hz]
  refine ⟨fun d=>?_,fun d=>?_⟩<;>simp only [decide_eq_true_eq,decide_eq_false_iff_not] at d
  ·obtain ⟨j,rfl⟩:∃ j,k=j+1:=⟨k-1,by omega⟩
   have e1:((j+1:Nat):Int)-1=(j:Int):=by omega
   rw [e1,Int.toNat_natCast]
   have d2:j<List.length s:=by omega
   have d3:j<List.length w:=by omega
   have hr0:=hrng j d3
   have hzb:List.getD s j (zd bkT)=List.getD s j []:=rfl
   rw [hzb]
   have hds:=drop_g s [] d2
   have hdw:=drop_g w 0 d3
   have hmem:=getD_mem (l:=s) [] d2
   have htw:=take_get0 (w:=w) (i:=j) d3
   have hnx:nxt (List.drop j s) (List.drop j w)=if List.getD w j 0>=0 then some (chc (List.getD s j []) (List.getD w j 0+1)::fst (List.drop (j+1) s)) else none:=by
    rw [hds,hdw,nxt,hn]
   have hff:fst (List.drop j s)=chc (List.getD s j []) 0::fst (List.drop (j+1) s):=by rw [hds]; rfl
   have hnd:=@nxt_drop j s w
   obtain ⟨hb1,-⟩:=hs.2 _ hmem
   generalize List.getD s j []=b at *
   generalize List.getD w j 0=c at *
   have hg:(List.take (j+1) w++fst (List.drop (j+1) s)).getD j 0=c:=by
    rw [htw,List.append_assoc,List.getD_eq_getElem?_getD,List.getElem?_append_right (by rw [len_take (by omega)]; exact Nat.le_refl _),len_take (by omega),Nat.sub_self]
    rfl
   have hst (x:Int):(List.take (j+1) w++fst (List.drop (j+1) s)).set j x=List.take j w++x::fst (List.drop (j+1) s):=by
    rw [htw,List.append_assoc,List.set_append,if_neg (by rw [len_take (by omega)]; omega),len_take (by omega),Nat.sub_self]
    rfl
   have hlr:(List.take (j+1) w++fst (List.drop (j+1) s)).length=List.length s:=by
    unfold fst
    rw [List.length_append,List.length_map,List.length_drop,len_take (by omega)]; omega
   rw [hg,hst,hst,hlr]
   have b1:(0:Int)<=(j:Int)/\(j:Int)<(List.length s:Int):=by omega
   refine ⟨b1,b1,d2,fun g=>?_,fun g=>?_⟩<;>simp only [decide_eq_true_eq,decide_eq_false_iff_not] at g
   ·have g1:c<(List.length b:Int):=hr0.2
    rw [if_pos g] at hnx
    rw [hnd hnx] at hr
    refine ⟨b1,d2,by rw [inR_i64]; omega,b1,d2,?_⟩
    rw [hr]
    simp
   ·have g:¬c>=0:=g
    rw [if_neg g] at hnx
    refine ⟨b1,d2,by rw [inR_i64]; omega,hm _ j 2 ⟨by omega,hnx⟩ (by omega) ?_⟩
    rw [<-hff]
    dsimp only [go_sem]
    simp
  ·have hk0:k=0:=by omega
   subst hk0
   rw [List.drop_zero,List.drop_zero] at hn
   rw [hn] at hr
   simp [hr]
def atR (s:List Blk) (n:Int):List Int×Bool:=if n<cnt s then ((atW s n).1,true) else ([],false)
@[go_sem] def wAtS:Spec:=⟨[spT,nT],fun d=>(.tup (.cons (.dat wdT (atR d.1 (N d.2.1)).1) (.cons (.dat .bool (atR d.1 (N d.2.1)).2) .nil)),[spP d.1/\List.length d.1<=1000,List.length d.2.1<=2000])⟩
theorem wAt_ok:SpecOk Try.prog 23 wAtS:=by
 refine fn_ok EW4_ok wAtS Try.func23 rfl (by decide) (N:=59) rfl (res:=[.tmp 4,.tmp 5]) rfl (by decide) [] [(13,[1])] [] 100 (by kernel_rfl) ?_
 rintro ⟨s,n,_⟩ hw hp
 refine ⟨rfl,fun H hH=>?_⟩
 dsimp only [go_sem] at hw hp ⊢
 obtain ⟨⟨hs,hl⟩,hn,-⟩:=hp
 have hds:Ds n:=fun d hd=>inR_u32.1 (hw.2.1.2 d hd)
 have hr:atR s (N n)=if N n<cnt s then ((atW s (N n)).1,true) else ([],false):=rfl
 have hc0:0<=cnt s:=by unfold cnt; split; have:=prd_pos s; omega; exact Int.le_refl _
 have hcl:=cnt_len hs hl
 have hN0:=N_nonneg hds
 rw [N_dg hc0]
 have hcm:0<=cmpI (N n) (cnt s)↔¬N n<cnt s:=by
  unfold cmpI
  split
  ·omega
  ·split<;>omega
 refine ⟨⟨hs,hl⟩,Nat.le_trans hn (by decide),by omega,fun h=>?_,fun h=>?_⟩<;>simp only [decide_eq_true_eq,decide_eq_false_iff_not] at h<;>rw [hcm] at h
 ·rw [if_neg h] at hr
  simp [hr]
 rw [Decidable.not_not] at h
 rw [if_pos h] at hr
 have hz:(zd (Ty.int IntKind.i64))=(0:Int):=rfl
 rw [Int.toNat_natCast,hz,List.length_replicate]
 refine ⟨⟨Int.natCast_nonneg _,Int.le_refl _,by show (8:Int)*(List.length s:Int)<=140737488355328; omega⟩,by rw [inR_i64]; omega,?_⟩
 refine hH.loop (fun y:Nat×List Int=>⟨[(2,.ref 0 0),(6,.own 1),(7,.dat nT y.2),(8,.dat (.int .i64) ((y.1:Int)-1))],[(0,.box 25 (.cons (.dat (.slice bkT) s) .nil)),(1,.row 3 (.int .i64) (List.replicate y.1 (0:Int)++(atW (List.drop y.1 s) (N n)).1))],2⟩) (fun y=>y.1<=List.length s/\y.2.length<=2000/\Ds y.2/\N y.2=(atW (List.drop y.1 s) (N n)).2) (fun y=>y.1) (List.length s,n) 2 ⟨Nat.le_refl _,hn,hds,?_⟩ ?_ ?_
 ·show N n=(atW (List.drop (List.length s) s) (N n)).2
  rw [List.drop_length]; rfl
 ·dsimp only [go_sem]
  rw [List.drop_length]
  simp [atW]
 ·rintro ⟨k,l⟩ ⟨hk,hll,hdl,hNl⟩ R hm
  have hk:k<=List.length s:=hk
  have hll:l.length<=2000:=hll
  have hdl:Ds l:=hdl
  have hNl:N l=(atW (List.drop k s) (N n)).2:=hNl
  have hw1:=wk_len (atW_ok (List.drop k s) (N n) hN0).1
  rw [List.length_drop] at hw1
  refine hH.run 100 _ _ ?_
  dsimp only [go_sem]
  refine ⟨fun d=>?_,fun d=>?_⟩<;>simp only [decide_eq_true_eq,decide_eq_false_iff_not] at d
  ·obtain ⟨j,rfl⟩:∃ j,k=j+1:=⟨k-1,by omega⟩
   have e1:((j+1:Nat):Int)-1=(j:Int):=by omega
   rw [e1,Int.toNat_natCast]
   have d2:j<List.length s:=by omega
   have hzb:List.getD s j (zd bkT)=List.getD s j []:=rfl
   rw [hzb]
   have hds:=drop_g s [] d2
   have hmem:=getD_mem (l:=s) [] d2
   obtain ⟨hb1,-⟩:=hs.2 _ hmem
   have ha:atW (List.drop j s) (N n)=(chc (List.getD s j []) ((atW (List.drop (j+1) s) (N n)).2 % ((List.length (List.getD s j []):Int)+1))::(atW (List.drop (j+1) s) (N n)).1,(atW (List.drop (j+1) s) (N n)).2 / ((List.length (List.getD s j []):Int)+1)):=by
    rw [hds]; rfl
   rw [<-hNl] at ha
   generalize List.getD s j []=b at *
   have hne:¬(List.length b:Int)+1=0:=by omega
   have hL:(0:Int)<(List.length b:Int)+1:=by omega
   have hNl0:=N_nonneg hdl
   have hm0:=Int.emod_nonneg (N l) (show (List.length b:Int)+1≠0 by omega)
   have hm1:=Int.emod_lt_of_pos (N l) hL
   have hq0:0<=N l / ((List.length b:Int)+1):=Int.ediv_nonneg hNl0 (by omega)
   have hq1:N l / ((List.length b:Int)+1)<=N l:=Int.ediv_le_self _ hNl0
   rw [N_dg (show (0:Int)<=(List.length b:Int)+1 by omega)]
   simp only [if_neg hne]
   have hu:u64v (N l % ((List.length b:Int)+1))=N l % ((List.length b:Int)+1):=by
    unfold u64v
    rw [if_pos (by omega)]
   rw [N_dg hm0,hu]
   have h1l:=dg_len (n:=(List.length b:Int)+1) (c:=1) (by omega) (by show (List.length b:Int)+1<4294967296*1; omega)
   have h2l:=dg_len (n:=N l % ((List.length b:Int)+1)) (c:=1) hm0 (by show N l % ((List.length b:Int)+1)<4294967296*1; omega)
   have h3l:=dg_len (n:=N l / ((List.length b:Int)+1)) (c:=l.length) hq0 (Int.lt_of_le_of_lt hq1 (N_lt hdl))
   have hlr:(List.replicate (j+1) (0:Int)++(atW (List.drop (j+1) s) (N n)).1).length=List.length s:=by
    rw [List.length_append,List.length_replicate,hw1]; omega
   have hst (x:Int):(List.replicate (j+1) (0:Int)++(atW (List.drop (j+1) s) (N n)).1).set j x=List.replicate j (0:Int)++x::(atW (List.drop (j+1) s) (N n)).1:=by
    rw [List.replicate_succ',List.append_assoc,List.set_append,if_neg (by rw [List.length_replicate]; omega),List.length_replicate,Nat.sub_self]
    rfl
   rw [hlr,hst]
   have b1:(0:Int)<=(j:Int)/\(j:Int)<(List.length s:Int):=by omega
   have ha1:=congrArg Prod.fst ha
   have ha2:=congrArg Prod.snd ha
   dsimp only at ha1 ha2
   rw [<-ha1]
   refine ⟨b1,by omega,by omega,by omega,by omega,by rw [inR_i64]; omega,b1,d2,by rw [inR_i64]; omega,hm _ (j,dg (N l / ((List.length b:Int)+1))) 2 ⟨by show j<=_; omega,by show (dg (N l / ((List.length b:Int)+1))).length<=2000; omega,(canon_dg _).1,?_⟩ (by show j<j+1; omega) ?_⟩
   ·show N (dg (N l / ((List.length b:Int)+1)))=(atW (List.drop j s) (N n)).2
    rw [N_dg hq0,ha2]
   ·dsimp only [go_sem]
    simp
  ·have hk0:k=0:=by omega
   subst hk0
   rw [hr,List.drop_zero,List.replicate_zero,List.nil_append]
   simp
@[go_sem] noncomputable def EW5:Env:=(((EW4).add 7 wFsS).add 6 wNxS).add 23 wAtS
theorem EW5_ok:EW5.Ok:=(((EW4_ok).add wFs_ok).add wNx_ok).add wAt_ok
end Go.Proofs.Ytbokoblnehgkaaa.Gx
