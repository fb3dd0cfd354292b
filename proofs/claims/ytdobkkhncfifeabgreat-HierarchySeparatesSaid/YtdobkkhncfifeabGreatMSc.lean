/-
  MSc: SA SB SC in one text.
-/
import Derived.Test.YtdobkkhncfifeabGreatMSb
import Derived.Test.YtdobkkhncfifeabGreatMKc
namespace Go.Proofs.YtdobkkhncfifeabGreat.Gx
open Go Go.RowKit Tw B Nt
set_option linter.unusedVariables false
set_option linter.unusedSimpArgs false
set_option maxHeartbeats 40000000
set_option maxRecDepth 20000
section
variable {w0 w:World} {X0:Nat->Prop} {Bo:List Value} {ρ:List Value} {a:Act} {A:List (Nat×CT)} {Te:TypeId}
theorem Fr.addNil (h:Fr w0 X0 Bo 0 ⟨[],A,5⟩ ρ act0 w):Fr w0 X0 Bo 0 ⟨[],A++[(5,.row Te .str [])],6⟩ (ρ++[.slice none 0 0]) act0 w:=by
 have hn:ρ.length=5:=h.nx
 have hkn:∀ x∈A,x.1<5:=h.kn
 have hg:(ρ++[Value.slice none 0 0])[5]?=some (.slice none 0 0):=by
  rw [List.getElem?_append_right (by omega),hn]; rfl
 have ho:∀ x∈A,inC (ρ++[Value.slice none 0 0]) x.1=inC ρ x.1:=fun x hx=>blkO_app (by rw [hn]; exact hkn x hx)
 have h5:∀ b,¬inC (ρ++[Value.slice none 0 0]) 5 b:=fun b hb=>by
  rw [inC_of hg] at hb
  have:=own_inV (World.ownsRow_nil w 0 0 1) hb
  cases this
 have hmem:∀ {y:Nat×CT},y∈A++[(5,CT.row Te .str [])]->y∈A∨y=(5,CT.row Te .str []):=fun hy=>(List.mem_append.1 hy).imp id fun h=>by simpa using h
 have hXX:∀ b,XX X0 (ρ++[Value.slice none 0 0]) (A++[(5,CT.row Te .str [])]) b->XX X0 ρ A b:=by
  rintro b (hb|⟨y,hy,hb⟩)
  ·exact .inl hb
  ·rcases hmem hy with hy|rfl
   ·rw [ho y hy] at hb; exact .inr ⟨y,hy,hb⟩
   ·exact (h5 b hb).elim
 refine ⟨rfl,rfl,h.kp,by rw [List.length_append,hn]; rfl,?_,?_,?_,?_,?_,(fun t y hy=>by cases hy),⟨h.pn.bo,Nat.le_trans h.pn.le (by show 5<=6; decide),?_⟩⟩
 ·rw [List.map_append,List.nodup_append]
  refine ⟨h.nd,by simp,fun x hx y hy e=>?_⟩
  obtain ⟨z,hz,rfl⟩:=List.mem_map.1 hx
  have hy:y=5:=by simpa using hy
  have:=hkn z hz
  omega
 ·intro y hy
  rcases hmem hy with hy|rfl
  ·have:=hkn y hy; show y.1<6; omega
  ·show 5<6; decide
 ·intro y hy b hb
  rcases hmem hy with hy|rfl
  ·rw [ho y hy] at hb; exact h.bl y hy b hb
  ·exact (h5 b hb).elim
 ·intro y hy z hz hne b h1 h2
  rcases hmem hy with hy|rfl
  ·rcases hmem hz with hz|rfl
   ·rw [ho y hy] at h1
    rw [ho z hz] at h2
    exact h.dj y hy z hz hne b h1 h2
   ·exact h5 b h2
  ·exact h5 b h1
 ·intro y hy
  rcases hmem hy with hy|rfl
  ·exact cm_app _ (cm_tr (h.cs y hy) (fun b hb=>.inl (hXX b hb)) ⟨Nat.le_refl _,fun _ _ _=>rfl⟩ fun _ _=>rfl)
  ·exact ⟨_,[],hg,World.ownsRow_nil w _ _ _,by simp,by simp⟩
 ·intro y hy T l e hl
  rcases hmem hy with hy|rfl
  ·rw [List.getElem?_append_left (by have:=hkn y hy; omega)]
   exact h.pn.pn y hy T l e hl
  ·cases e
theorem mkB_all {ck:List (Nat×CT)} {n:Nat} (hn:ρ.length=n) (h:∀ i,i<n->∃ ct,(i,ct)∈ck):mkB ρ ck=ρ:=by
 refine List.ext_getElem? fun i=>?_
 rcases Nat.lt_or_ge i n with hi|hi
 ·obtain ⟨ct,hct⟩:=h i hi
  exact mk_in hct
 ·rw [List.getElem?_eq_none (by rw [mk_len]; omega),List.getElem?_eq_none (by omega)]
theorem ext21 {C:List (List Str)} {hd:List Str} {D:List Cq} {k:Nat} (hp:exP k C [] hd D []) (hX0:∀ b,X0 b->b<w0.heap.size) {sl:List (Nat×AV)} (hf:Fr w0 X0 [] 62 ⟨sl,exA C [] hd D,5⟩ ρ a w) (g59:get? sl 59=some exF) (g9:get? sl 9=some (.ref 1 0))
    {y0:TypeId} {p0:String} {f0:Array Edge} {dd:Option Nat} {at5:Array TypeId} (hdd:dd≠some 9) {ops:Array Oper} {Q:Exit->Act->World->Prop}
    (hQ:∀ ρ' a' w',Fr w0 X0 [] 62 ⟨[(9,.ref 1 0)],exCk C (chI D hd k []) hd D [],6⟩ ρ' a' w'->Q .normal a' w') :
    wpList EX1.P ops Q [⟨dd,.call { callee:=.value (.tmp 59),args:=#[.const (.slice none 0 0)],argTypes:=at5 },y0,p0,f0,none⟩] a w:=by
 have h0:Fr w0 X0 [] 0 ⟨[],exA C [] hd D,5⟩ ρ act0 w:=fr_unfacts hf
 have hN:=h0.addNil (Te:=9)
 have hn:ρ.length=5:=hf.nx
 have hN6:(ρ++[Value.slice none 0 0]).length=6:=hN.nx
 have hall:∀ i,i<6->∃ ct,(i,ct)∈exA C [] hd D++[(5,CT.row 9 .str [])]:=fun i hi=>by
  rcases Nat.lt_or_ge i 5 with h|h
  ·obtain ⟨ct,hct⟩:=exA_all (C:=C) (R:=[]) (hd:=hd) (D:=D) i h
   exact ⟨ct,List.mem_append_left _ hct⟩
  ·have:i=5:=by omega
   subst this
   exact ⟨_,List.mem_append_right _ List.mem_cons_self⟩
 have hmk:=mkB_all hN6 hall
 have h1:=hN.rst fun b hb x hx e=>own_not hN hX0 hx e hb
 obtain ⟨us,hfv,hus⟩:=hf.sl _ _ g59
 have hfv:=(List.cons.inj hfv).1
 have hus:m ρ (fun _=>False) w (.cons (.ref 0 0) (.cons (.ref 1 0) (.cons (.ref 2 0) (.cons (.ref 3 0) .nil)))) us:=hus
 refine wpList_plain rfl fun K hK=>?_
 unfold Oper.wp
 have hv59:a.eval (.tmp 59)=.func (.func 19) #[] us.toArray:=hfv
 rw [execOp_call_val (h:=hv59),callFunc_ok (P:=EX1.P) (f:=19) Tryz.func19 rfl rfl]
 have harr:(#[]++Array.map a.eval #[.const (.slice none 0 0)])++us.toArray=(Value.slice none 0 0::us).toArray:=by
  have:a.eval (.const (.slice none 0 0))=.slice none 0 0:=rfl
  simp [this]
 rw [harr]
 have hg5:(ρ++[Value.slice none 0 0])[5]?=some (.slice none 0 0):=by
  rw [List.getElem?_append_right (by omega),hn]; rfl
 have hw0:w0.heap.size<=w.heap.size:=hf.kp.size
 have hih:=ext_ok k C [] hd D [] hp (ρ++[.slice none 0 0]) X0 w (.slice none 0 0) us (fun b hb=>Nat.lt_of_lt_of_le (hX0 b hb) hw0) (by rw [hmk] at h1; exact h1) hg5 (m_app' _ hus)
 refine Calls.mono hih ?_
 rintro e w2 ⟨rfl,ρ2,hv2,hf2⟩
 refine hK _ _ (hQ ρ2 _ w2 ?_)
 have h2:=hN.urst (by rw [hmk]; exact hf2)
 refine ⟨by rw [defers_put]; exact hf.dn,by rw [size_put]; exact hf.sz,h2.kp,h2.nx,h2.nd,h2.kn,h2.bl,h2.dj,h2.cs,fun t y hy=>?_,h2.pn⟩
 have hy:=get?_mem hy
 simp only [List.mem_cons,Prod.mk.injEq,List.not_mem_nil,or_false] at hy
 obtain ⟨rfl,rfl⟩:=hy
 obtain ⟨v1,b1,r1,r2,r3⟩:=hf.sl _ _ g9
 rw [gt_put_ne hdd]
 refine ⟨v1,b1,?_,r2,r3⟩
 have:=hf2.pn.pn (1,.box 24 (.cons (.own 4) .nil)) (by unfold exCk exA; simp) _ _ rfl (by show 1<_; rw [hN6]; decide)
 have this:ρ2[1]?=(ρ++[Value.slice none 0 0])[1]?:=this
 rw [this,List.getElem?_append_left (by omega)]
 exact r1
end
def canK (hd:List Str) (c:Cq) (x:Str):Bool:=!(hd.any fun y=>decide (x=y))&&evB c x&&cptB c x c x
def canC (hd:List Str) (c:Cq) (nm:List Str):List Str:=nm.filter (canK hd c)
theorem canC_eq {D:List Cq} {hd:List Str} {i:Nat} (hA:(D.getD i cz).1≠[]):canC hd (D.getD i cz) (vrs (trm (D.getD i cz)))=candI D hd i:=by
 unfold canC candI candR
 rw [List.filter_filter]
 refine List.filter_congr fun x hx=>?_
 unfold canK
 rw [evB_eq _ (vrs_ne hx),decide_eq_true hA,Bool.true_and,Bool.and_comm]
 have:(fun y=>decide (x=y))=fun y=>decide (y=x):=funext fun y=>decide_eq_decide.2 eq_comm
 rw [this]
theorem canC_none {hd:List Str} {c:Cq} (hA:c.1=[]):canC hd c (vrs (trm c))=[]:=by
 unfold canC
 rw [List.filter_eq_nil_iff]
 intro x hx
 unfold canK
 rw [evB_eq _ (vrs_ne hx),decide_eq_false (fun h=>h hA)]
 simp
@[go_sem] def hsepS:Spec:=⟨[qryT],fun d=>(.dat (.slice (.slice .str)) (sepL d.1.2 d.1.1),[qP d.1])⟩
theorem hsep_ok:SpecOk Tryz.prog 7 hsepS:=by
 refine fn_ok EX1_ok hsepS Tryz.func7 rfl (by decide) (N:=62) rfl (res:=[.tmp 2]) rfl (by decide) [] [(14,[4]),(18,[2]),(22,[4])] [21] 100 (by kernel_rfl) ?_
 rintro ⟨q,_⟩ hw hp
 refine ⟨rfl,fun H hH=>?_⟩
 dsimp only [go_sem] at hw hp ⊢
 obtain ⟨hq,-⟩:=hp
 obtain ⟨hd,D⟩:=q
 change List Cq at D
 change List Str at hd
 have hD3:D.length<=3:=hq.1.1
 have hzD:∀ k,D.getD k (zd cqT)=D.getD k cz:=fun _=>rfl
 clear hw
 have hP:∀ c∈D,cqP c/\(vrs (trm c)).length<=30:=hq.2
 have hh:hd.length<=1000:=hq.1.2
 refine hH.loop (fun i:Nat=>⟨[(14,.dat (.int .i64) (i:Int)),(13,.dat (.int .i64) (D.length:Int)),(12,.dat (.slice cqT) D),(3,.ref 1 0),(1,.ref 0 0)],[(0,.box 33 (.cons (.dat (.slice .str) hd) (.cons (.dat (.slice cqT) D) .nil))),(1,.box 24 (.cons (.own 2) .nil)),(2,.row 23 (.slice .str) ((List.range i).map (candI D hd)))],3⟩) (fun i=>i<=D.length/\∀ j,j<i->candI D hd j≠[]/\(D.getD j cz).1≠[]) (fun i=>D.length-i) 0 2 ⟨Nat.zero_le _,fun j h=>absurd h (Nat.not_lt_zero _)⟩ ?_ ?_
 ·dsimp only [go_sem]
  and_intros<;>first|trivial|rfl|omega
 rintro i ⟨hi,hz⟩ R hm
 refine hH.run 100 _ _ ?_
 dsimp only [go_sem]
 simp only [Int.toNat_natCast,hzD]
 refine ⟨fun d=>?_,fun d=>?_⟩
 ·have d:i<D.length:=by
    have d:(i:Int)<(D.length:Int):=of_decide_eq_true d
    omega
  have hbi:(0:Int)<=(i:Int)/\(i:Int)<(D.length:Int):=by omega
  have hii:inR .i64 ((i:Int)+1):=by rw [inR_i64]; omega
  have him:D.length-(i+1)<D.length-i:=by omega
  have hPi:=hP _ (getDm (l:=D) cz d)
  obtain ⟨c,hc⟩:∃ c,D.getD i cz=c:=⟨_,rfl⟩
  rw [hc] at hPi
  simp only [hc]
  obtain ⟨A,cs⟩:=c
  change List Atom at A
  change List Cmp at cs
  obtain ⟨nm,hnm⟩:∃ nm,vrs (trm (A,cs))=nm:=⟨_,rfl⟩
  rw [hnm] at hPi ⊢
  have hn30:nm.length<=30:=hPi.2
  refine ⟨hbi,hPi.1,?_⟩
  refine hH.loop (fun q:Nat=>⟨[(21,.dat (.int .i64) (q:Int)),(20,.dat (.int .i64) (nm.length:Int)),(19,.dat (.slice .str) nm),(6,.own 4),(5,.ref 3 0),(14,.dat (.int .i64) (i:Int)),(13,.dat (.int .i64) (D.length:Int)),(12,.dat (.slice cqT) D),(3,.ref 1 0),(1,.ref 0 0)],[(0,.box 33 (.cons (.dat (.slice .str) hd) (.cons (.dat (.slice cqT) D) .nil))),(1,.box 24 (.cons (.own 2) .nil)),(2,.row 23 (.slice .str) ((List.range i).map (candI D hd))),(3,.box 29 (.cons (.dat (.slice atomT) A) (.cons (.dat (.slice cmpT) cs) .nil))),(4,.row 9 .str (canC hd (A,cs) (nm.take q)))],5⟩) (fun q=>q<=nm.length) (fun q=>nm.length-q) 0 4 (Nat.zero_le _) ?_ ?_
  ·dsimp only [go_sem]
   and_intros<;>first|trivial|rfl|omega
  rintro q hq2 R2 hm2
  refine hH.run 100 _ _ ?_
  dsimp only [go_sem]
  simp only [Int.toNat_natCast]
  obtain ⟨x,hx⟩:∃ x,nm.getD q (zd .str)=x:=⟨_,rfl⟩
  simp only [hx,imp_self,true_and]
  refine ⟨fun dq=>?_,fun dq=>?_⟩
  ·have dq:q<nm.length:=by
     have dq:(q:Int)<(nm.length:Int):=of_decide_eq_true dq
     omega
   have hbq:(0:Int)<=(q:Int)/\(q:Int)<(nm.length:Int):=by omega
   have hqi:inR .i64 ((q:Int)+1):=by rw [inR_i64]; omega
   have hqm:nm.length-(q+1)<nm.length-q:=by omega
   have htk:canC hd (A,cs) (nm.take (q+1))=canC hd (A,cs) (nm.take q)++if canK hd (A,cs) x=true then [x] else []:=by
    unfold canC
    rw [take_snoc (zd .str) dq,hx,List.filter_append]
    congr 1
    by_cases hk:canK hd (A,cs) x=true
    ·rw [if_pos hk,List.filter_cons_of_pos hk]; rfl
    ·rw [if_neg hk,List.filter_cons_of_neg hk]; rfl
   have hl30:(canC hd (A,cs) (nm.take q)).length<=30:=Nat.le_trans (List.length_filter_le _ _) (Nat.le_trans (List.length_take_le' _ _) hn30)
   refine ⟨hbq,Nat.le_trans hh (by decide),fun _=>hPi.1,fun _=>hPi.1,fun _=>hPi.1,fun hk=>⟨?_,hqi,hm2 _ (q+1) 5 dq hqm ?_⟩,fun hk=>⟨hqi,hm2 _ (q+1) 5 dq hqm ?_⟩⟩
   ·rw [List.length_singleton]
    omega
   ·have hk:canK hd (A,cs) x=true:=hk
    rw [htk,if_pos hk]
    dsimp only [go_sem]
    and_intros<;>first|trivial|rfl|omega
   ·have hk:canK hd (A,cs) x=false:=hk
    rw [htk,if_neg (by rw [hk]; decide),List.append_nil]
    dsimp only [go_sem]
    and_intros<;>first|trivial|rfl|omega
  ·have dq:q=nm.length:=by
     have dq:¬(q:Int)<(nm.length:Int):=of_decide_eq_false dq
     omega
   subst dq
   rw [List.take_length]
   have hcan1:A≠[]->canC hd (A,cs) nm=candI D hd i:=fun hA=>by
    rw [<-hnm,<-hc]
    exact canC_eq (by rw [hc]; exact hA)
   have hcan0:A=[]->canC hd (A,cs) nm=[]:=fun hA=>by
    rw [<-hnm]
    exact canC_none hA
   have hi3:i<=3:=by omega
   refine ⟨fun e=>⟨?_,trivial⟩,fun e=>⟨?_,hii,hm _ (i+1) 3 ⟨d,fun j hj=>?_⟩ him ?_⟩⟩
   ·have e:((canC hd (A,cs) nm).length:Int)=0:=of_decide_eq_true e
    have e:canC hd (A,cs) nm=[]:=List.length_eq_zero_iff.1 (by omega)
    rw [sepL_eq]
    rw [if_neg (fun h=>by rw [h] at d; exact absurd d (Nat.not_lt_zero _))]
    by_cases hA:A=[]
    ·rw [if_neg]
     rw [List.all_eq_true]
     intro h
     have h:=h _ (getDm (l:=D) cz d)
     rw [hc] at h
     exact absurd hA (of_decide_eq_true h)
    ·rw [hcan1 hA] at e
     split
     ·exact (chI_none e D.length (Nat.zero_le _) (by show i<0+D.length; omega)).symm
     ·rfl
   ·rw [List.length_map,List.length_range,List.length_singleton]
    omega
   ·have e:¬((canC hd (A,cs) nm).length:Int)=0:=of_decide_eq_false e
    have hA:A≠[]:=fun hA=>e (by rw [hcan0 hA]; rfl)
    rcases Nat.lt_or_ge j i with h|h
    ·exact hz j h
    ·have:j=i:=by omega
     subst this
     rw [hc]
     refine ⟨fun h=>e ?_,hA⟩
     rw [hcan1 hA,h]
     rfl
   ·have e:¬((canC hd (A,cs) nm).length:Int)=0:=of_decide_eq_false e
    have hA:A≠[]:=fun hA=>e (by rw [hcan0 hA]; rfl)
    rw [List.range_succ,List.map_append,List.map_singleton,<-hcan1 hA]
    dsimp only [go_sem]
    and_intros<;>first|trivial|rfl|omega
 ·have d:i=D.length:=by
    have d:¬(i:Int)<(D.length:Int):=of_decide_eq_false d
    omega
  subst d
  refine ⟨fun e=>⟨?_,trivial⟩,fun e=>?_⟩
  ·have e:(((List.range D.length).map (candI D hd)).length:Int)=0:=of_decide_eq_true e
   rw [List.length_map,List.length_range] at e
   have e:D=[]:=List.length_eq_zero_iff.1 (by omega)
   unfold sepL
   rw [if_pos e]
  have e:¬(((List.range D.length).map (candI D hd)).length:Int)=0:=of_decide_eq_false e
  rw [List.length_map,List.length_range] at e
  have hD0:D≠[]:=fun h=>e (by rw [h]; rfl)
  have hfl:chI D hd D.length []=sepL D hd:=by
   rw [sepL_eq,if_neg hD0,if_pos]
   rw [List.all_eq_true]
   intro c hc
   obtain ⟨j,hj,rfl⟩:=List.getElem_of_mem hc
   have h:=(hz j hj).2
   rw [List.getD_eq_getElem?_getD,List.getElem?_eq_getElem hj] at h
   exact decide_eq_true h
  obtain ⟨C,hC⟩:∃ C,(List.range D.length).map (candI D hd)=C:=⟨_,rfl⟩
  have hCl:C.length=D.length:=by rw [<-hC,List.length_map,List.length_range]
  have hCi:∀ i,i<D.length->C.getD i []=candI D hd i:=fun i hi=>by
   rw [<-hC,List.getD_eq_getElem?_getD,List.getElem?_map,List.getElem?_range hi]
   rfl
  rw [hC]
  have hp:exP D.length C [] hd D []:=⟨by show 0+D.length=_; omega,⟨hD3,hh,hP⟩,⟨hCl,hCi⟩,by
   have:30 ^ D.length<=30 ^ 3:=Nat.pow_le_pow_right (by decide) hD3
   have h2:(30:Nat) ^ 3=27000:=by decide
   show 0+30 ^ D.length<=_
   omega⟩
  refine hH.weak ⟨[(9,.ref 3 0),(10,.ref 4 0)],[(0,.box 33 (.cons (.dat (.slice .str) hd) (.cons (.dat (.slice cqT) D) .nil))),(1,.box 24 (.cons (.dat (.slice (.slice .str)) C) .nil)),(3,.box 24 (.cons (.own 5) .nil)),(4,.box 57 (.cons (.clo 19 (.cons (.ref 1 0) (.cons (.ref 3 0) (.cons (.ref 0 0) (.cons (.ref 4 0) .nil))))) .nil)),(5,.row 23 (.slice .str) [])],6⟩ 5 ?_ ?_
  ·dsimp only [go_sem]
   and_intros<;>first|trivial|rfl|omega
  ·refine hH.ren [(0,1),(1,3),(2,0),(3,4),(4,5)] 5 rfl rfl (Nat.zero_le _) rfl ?_
   dsimp only [go_sem]
   refine hH.raw fun w0 X0 Bo Q hnb hE hX0 hfin ρ a w hf=>?_
   have hBo:Bo=[]:=List.length_eq_zero_iff.1 hnb.symm
   subst hBo
   refine region_pre (pre:=[_]) (post:=[_]) (ann:=[]) EX1_ok hX0 rfl hf rfl trivial (by rfl) fun ρ7 a7 w7 hf7=>?_
   refine ext21 (k:=D.length) hp hX0 hf7 rfl rfl (by decide) fun ρ8 a8 w8 hf8=>?_
   refine run_h hnb hE hX0 hfin (fun H hH hraw=>?_) (by kernel_rfl) ρ8 a8 w8 hf8
   refine hH.run 100 _ _ ?_
   unfold exCk exA
   dsimp only [go_sem,List.cons_append,List.nil_append]
   exact ⟨hfl,trivial⟩
end Go.Proofs.YtdobkkhncfifeabGreat.Gx
namespace Go.Proofs.YtdobkkhncfifeabGreat.Gx
open Go Go.RowKit Tw B Nt
set_option linter.unusedVariables false
set_option linter.unusedSimpArgs false
set_option maxHeartbeats 40000000
set_option maxRecDepth 20000
@[go_sem] noncomputable def EX2:Env:=(((((((((EX1).add 11 bAtS).add 13 patS).add 14 rdS).add 12 bcqS).add 10 knS).add 4 buiS).add 7 hsepS).add 8 sepsS).add 9 lssS
theorem EX2_ok:EX2.Ok:=(((((((((EX1_ok).add bAt_ok).add pat_ok).add rd_ok).add bcq_ok).add kn_ok).add bui_ok).add hsep_ok).add seps_ok).add lss_ok
def booN (l:List Int):Nat:=(bat l 0 % 3).toNat+1
def booQ (l:List Int):Qry:=([],(List.range (booN l)).map fun i:Nat=>cqN (bat l (1+(i:Int))))
@[go_sem] def booS:Spec:=⟨[.slice (.int .i64)],fun d=>(.dat qryT (booQ d.1),[])⟩
theorem boo_ok:SpecOk Tryz.prog 5 booS:=by
 refine fn_ok EX2_ok booS Tryz.func5 rfl (by decide) (N:=24) rfl (res:=[.cell 2 33]) rfl (by decide) [(1,[(5,.ag)]),(5,[(20,.dt)])] [(6,[2])] [] 100 (by kernel_rfl) ?_
 rintro ⟨l,_⟩ hw hp
 refine ⟨rfl,fun H hH=>?_⟩
 dsimp only [go_sem] at hw hp ⊢
 change List Int at l
 clear hw hp
 have hN:1<=booN l/\booN l<=3:=by
  have:=bat_nn l (show (0:Int)<=0 by decide)
  unfold booN
  omega
 have hb0:=bat_nn l (show (0:Int)<=0 by decide)
 have hbN:bat l 0 % 3=(booN l:Int)-1:=by
  unfold booN
  omega
 refine hH.loop (fun i:Nat=>⟨[(4,.dat (.int .i64) (i:Int)),(3,.ref 1 0),(2,.ref 0 0),(0,.dat (.slice (.int .i64)) l)],[(0,.box 33 (.cons (.dat (.slice .str) []) (.cons (.dat (.slice cqT) []) .nil))),(1,.box 33 (.cons (.val (.slice none 0 0)) (.cons (.own 2) .nil))),(2,.row 29 cqT ((List.range i).map fun i:Nat=>cqN (bat l (1+(i:Int)))))],3⟩) (fun i=>i<=booN l) (fun i=>booN l-i) 0 2 (Nat.zero_le _) ?_ ?_
 ·dsimp only [go_sem]
  and_intros<;>first|trivial|rfl|omega
 rintro i hi R hm
 refine hH.run 100 _ _ ?_
 dsimp only [go_sem]
 have e3:(bat l 0).tmod 3=(booN l:Int)-1:=by rw [Int.tmod_eq_emod_of_nonneg hb0,hbN]
 rw [e3]
 have hs:(List.range (i+1)).map (fun i:Nat=>cqN (bat l (1+(i:Int))))=(List.range i).map (fun i:Nat=>cqN (bat l (1+(i:Int))))++[cqN (bat l (1+(i:Int)))]:=by rw [List.range_succ,List.map_append]; rfl
 have hl0:((List.range i).map (fun i:Nat=>cqN (bat l (1+(i:Int))))).length=i:=by rw [List.length_map,List.length_range]
 refine ⟨⟨by decide,by decide⟩,by decide,by rw [inR_i64]; omega,fun d=>?_,fun d=>⟨?_,trivial⟩⟩
 ·have d:(i:Int)<=(booN l:Int)-1:=of_decide_eq_true d
  have d:i<booN l:=by omega
  have hm1:booN l-(i+1)<booN l-i:=by omega
  have h1:inR .i64 (1+(i:Int)):=by rw [inR_i64]; omega
  have h2:inR .i64 ((i:Int)+1):=by rw [inR_i64]; omega
  have h3:(0:Int)<=1+(i:Int)/\1+(i:Int)<=1000000:=by omega
  refine ⟨h1,h3,?_,rfl,h2,hm _ (i+1) 3 d hm1 ?_⟩
  ·rw [hl0,List.length_singleton]
   omega
  ·rw [hs]
   dsimp only [go_sem]
   and_intros<;>first|trivial|rfl|omega
 ·have d:¬(i:Int)<=(booN l:Int)-1:=of_decide_eq_false d
  have d:i=booN l:=by omega
  subst d
  rfl
def quZ (l:List Int):Nat:=if bat l 0 % 4=3 then 9 else 24
def quH (l:List Int):List Str:=if bat l 0 % 4=1∨bat l 0 % 4=2 then [[120]] else if bat l 0 % 4=3 then [[121],[120]] else []
def quC (l:List Int) (i:Nat):Cq:=cqOf (txt (bat l (2+(i:Int)) % (quZ l:Int)).toNat (bat l (4+(i:Int)) % 3).toNat)
def quN (l:List Int):Nat:=(bat l 1 % 2).toNat+1
def quQ (l:List Int):Qry:=(quH l,(List.range (quN l)).map (quC l))
theorem quC_in (l:List Int) (i:Nat):txt (bat l (2+(i:Int)) % (quZ l:Int)).toNat (bat l (4+(i:Int)) % 3).toNat∈txts:=by
 have hZ:(quZ l:Int)=9∨(quZ l:Int)=24:=by unfold quZ; split<;>simp
 refine txt_in ?_ (by omega)
 rcases hZ with h|h<;>rw [h]<;>omega
@[go_sem] def quS:Spec:=⟨[.slice (.int .i64)],fun d=>(.dat qryT (quQ d.1),[])⟩
theorem qu_ok:SpecOk Tryz.prog 6 quS:=by
 refine fn_ok EX2_ok quS Tryz.func6 rfl (by decide) (N:=52) rfl (res:=[.cell 2 33]) rfl (by decide) [(1,[(8,.ag)]),(8,[(19,.dt)]),(10,[(23,.dt)]),(14,[(48,.dt)])] [(15,[2])] [11] 100 (by kernel_rfl) ?_
 rintro ⟨l,_⟩ hw hp
 refine ⟨rfl,fun H hH=>?_⟩
 dsimp only [go_sem] at hw hp ⊢
 change List Int at l
 clear hw hp
 have hb0:=bat_nn l (show (0:Int)<=0 by decide)
 have e4:(bat l 0).tmod 4=bat l 0 % 4:=Int.tmod_eq_emod_of_nonneg hb0
 simp only [e4]
 refine ⟨⟨by decide,by decide⟩,by decide,by rw [inR_i64]; omega,?_⟩
 apply both1 (H:=H) (inv:=fun _:Unit=>⟨[(6,.dat (.int .i64) (quZ l:Int)),(5,.dat (.slice .str) pats),(3,.ref 1 0),(2,.ref 0 0),(0,.dat (.slice (.int .i64)) l)],[(0,.box 33 (.cons (.dat (.slice .str) []) (.cons (.dat (.slice cqT) []) .nil))),(1,.box 33 (.cons (.dat (.slice .str) (quH l)) (.cons (.val (.slice none 0 0)) .nil)))],2⟩) (Q:=fun _=>True)
 ·intro key
  have key:=key () trivial
  refine ⟨fun h1=>⟨fun _=>hH.weak _ 2 ?_ key,fun h=>by rw [h1] at h; cases h⟩,fun h1=>⟨fun h2=>hH.weak _ 2 ?_ key,fun h2=>⟨fun h3=>hH.weak _ 2 ?_ key,fun h3=>hH.weak _ 2 ?_ key⟩⟩⟩
  ·have h1:=of_decide_eq_true h1
   have a1:quH l=[[120]]:=by unfold quH; rw [if_pos (.inl h1)]
   have a2:quZ l=24:=by unfold quZ; rw [if_neg (by omega)]
   rw [a1,a2]
   dsimp only [go_sem]
   and_intros<;>first|trivial|rfl|omega
  ·have h2:=of_decide_eq_true h2
   have a1:quH l=[[120]]:=by unfold quH; rw [if_pos (.inr h2)]
   have a2:quZ l=24:=by unfold quZ; rw [if_neg (by omega)]
   rw [a1,a2]
   dsimp only [go_sem]
   and_intros<;>first|trivial|rfl|omega
  ·have h3:=of_decide_eq_true h3
   have a1:quH l=[[121],[120]]:=by unfold quH; rw [if_neg (by omega),if_pos h3]
   have a2:quZ l=9:=by unfold quZ; rw [if_pos h3]
   rw [a1,a2]
   dsimp only [go_sem]
   and_intros<;>first|trivial|rfl|omega
  ·have h1:=of_decide_eq_false h1
   have h2:=of_decide_eq_false h2
   have h3:=of_decide_eq_false h3
   have a1:quH l=[]:=by unfold quH; rw [if_neg (by omega),if_neg h3]
   have a2:quZ l=24:=by unfold quZ; rw [if_neg h3]
   rw [a1,a2]
   dsimp only [go_sem]
   and_intros<;>first|trivial|rfl|omega
 rintro - -
 refine hH.go [] 100 _ _ ?_
 dsimp only [go_sem]
 have hZ:(quZ l:Int)=9∨(quZ l:Int)=24:=by unfold quZ; split<;>simp
 have hb1:=bat_nn l (show (0:Int)<=1 by decide)
 have hbN:bat l 1 % 2=(quN l:Int)-1:=by
  unfold quN
  omega
 have hN:1<=quN l/\quN l<=2:=by omega
 refine hH.loop (fun i:Nat=>⟨[(7,.dat (.int .i64) (i:Int)),(6,.dat (.int .i64) (quZ l:Int)),(5,.dat (.slice .str) pats),(3,.ref 1 0),(2,.ref 0 0),(0,.dat (.slice (.int .i64)) l)],[(0,.box 33 (.cons (.dat (.slice .str) []) (.cons (.dat (.slice cqT) []) .nil))),(1,.box 33 (.cons (.dat (.slice .str) (quH l)) (.cons (.own 2) .nil))),(2,.row 29 cqT ((List.range i).map (quC l)))],3⟩) (fun i=>i<=quN l) (fun i=>quN l-i) 0 2 (Nat.zero_le _) ?_ ?_
 ·dsimp only [go_sem]
  and_intros<;>first|trivial|rfl|omega
 rintro i hi R hm
 refine hH.run 100 _ _ ?_
 dsimp only [go_sem]
 have e3:(bat l 1).tmod 2=(quN l:Int)-1:=by rw [Int.tmod_eq_emod_of_nonneg hb1,hbN]
 have b2:=bat_nn l (show (0:Int)<=2+(i:Int) by omega)
 have b4:=bat_nn l (show (0:Int)<=4+(i:Int) by omega)
 have e5:(bat l (2+(i:Int))).tmod (quZ l:Int)=bat l (2+(i:Int)) % (quZ l:Int):=Int.tmod_eq_emod_of_nonneg b2
 rw [e3]
 simp only [e5]
 have hk:0<=bat l (2+(i:Int)) % (quZ l:Int)/\bat l (2+(i:Int)) % (quZ l:Int)<24:=by
  rcases hZ with h|h<;>rw [h]<;>omega
 have hs:(List.range (i+1)).map (quC l)=(List.range i).map (quC l)++[quC l i]:=by rw [List.range_succ,List.map_append]; rfl
 have hl0:((List.range i).map (quC l)).length=i:=by rw [List.length_map,List.length_range]
 have hin:=quC_in l i
 have hK:=txts_K hin
 have hpl:(pats.getD (bat l (2+(i:Int)) % (quZ l:Int)).toNat []).length<=100:=by
  have:=t1 _ hin
  unfold txt at this
  rw [List.length_map] at this
  exact this
 refine ⟨⟨by decide,by decide⟩,by decide,by rw [inR_i64]; omega,fun d=>?_,fun d=>⟨?_,trivial⟩⟩
 ·have d:(i:Int)<=(quN l:Int)-1:=of_decide_eq_true d
  have d:i<quN l:=by omega
  have hm1:quN l-(i+1)<quN l-i:=by omega
  have h1:inR .i64 (2+(i:Int)):=by rw [inR_i64]; omega
  have h1':inR .i64 (4+(i:Int)):=by rw [inR_i64]; omega
  have h2:inR .i64 ((i:Int)+1):=by rw [inR_i64]; omega
  have h3:(0:Int)<=2+(i:Int)/\2+(i:Int)<=1000000:=by omega
  have h3':(0:Int)<=4+(i:Int)/\4+(i:Int)<=1000000:=by omega
  have h4:inR .i64 (bat l (2+(i:Int)) % (quZ l:Int)):=by rw [inR_i64]; omega
  have h5:(quZ l:Int)≠0:=by omega
  have hpn:(pats.length:Int)=24:=rfl
  have h6:0<=bat l (2+(i:Int)) % (quZ l:Int)/\bat l (2+(i:Int)) % (quZ l:Int)<(pats.length:Int):=by omega
  refine ⟨h1,h3,h5,h4,h6,h1',h3',⟨hpl,b4,hK⟩,?_,trivial,h2,hm _ (i+1) 3 d hm1 ?_⟩
  ·rw [hl0,List.length_singleton]
   omega
  ·rw [hs]
   dsimp only [go_sem]
   and_intros<;>first|trivial|rfl|omega
 ·have d:¬(i:Int)<=(quN l:Int)-1:=of_decide_eq_false d
  have d:i=quN l:=by omega
  subst d
  rfl
end Go.Proofs.YtdobkkhncfifeabGreat.Gx
namespace Go.Proofs.YtdobkkhncfifeabGreat.Gx
open Go Go.RowKit Tw B Nt
set_option linter.unusedVariables false
set_option linter.unusedSimpArgs false
set_option maxHeartbeats 40000000
set_option maxRecDepth 100000
theorem t10:∀ s∈txts,(trm (cqOf s)).length<=30:=by decide +kernel
theorem cqN_v (n:Int):cqP (cqN n)/\(vrs (trm (cqN n))).length<=30:=⟨cqN_P n,Nat.le_trans (vrs_len _) (t10 _ (cqN_in n))⟩
theorem quC_v (l:List Int) (i:Nat):cqP (quC l i)/\(vrs (trm (quC l i))).length<=30:=⟨t9 _ (quC_in l i),Nat.le_trans (vrs_len _) (t10 _ (quC_in l i))⟩
theorem bld_v (l:List Int):cqP (bld l)/\(vrs (trm (bld l))).length<=30:=by
 refine ⟨bld_P l,Nat.le_trans (vrs_len _) ?_⟩
 have a:=fm_len atT 4 (l:=(bld l).1) fun x hx=>by
  obtain ⟨y,hy,rfl⟩:=List.mem_map.1 hx
  show ((List.range (nTerm y)).map (bTerm y)).length<=4
  rw [List.length_map,List.length_range]
  unfold nTerm
  omega
 have b:=fm_len cpT 2 (l:=(bld l).2) fun _ _=>Nat.le_refl _
 have a1:(bld l).1.length<=7:=by
  show ((l.take 7).map bAtom).length<=7
  rw [List.length_map,List.length_take]; omega
 have b1:(bld l).2.length<=1:=by
  show (if 7<l.length then [bCmp (l.getD 7 0)] else []).length<=1
  split<;>simp
 unfold trm
 rw [List.length_append]
 omega
theorem booQ_P (l:List Int):qP (booQ l):=by
 have:=bat_nn l (show (0:Int)<=0 by decide)
 refine ⟨⟨?_,Nat.zero_le _⟩,fun c hc=>?_⟩
 ·show ((List.range (booN l)).map _).length<=3
  rw [List.length_map,List.length_range]
  unfold booN
  omega
 ·obtain ⟨i,_,rfl⟩:=List.mem_map.1 hc
  exact cqN_v _
theorem quQ_P (l:List Int):qP (quQ l):=by
 have:=bat_nn l (show (0:Int)<=1 by decide)
 refine ⟨⟨?_,?_⟩,fun c hc=>?_⟩
 ·show ((List.range (quN l)).map _).length<=3
  rw [List.length_map,List.length_range]
  unfold quN
  omega
 ·show (quH l).length<=1000
  unfold quH
  split
  ·decide
  ·split<;>decide
 ·obtain ⟨i,_,rfl⟩:=List.mem_map.1 hc
  exact quC_v _ _
@[go_sem] noncomputable def EX3:Env:=((EX2).add 5 booS).add 6 quS
theorem EX3_ok:EX3.Ok:=((EX2_ok).add boo_ok).add qu_ok
@[go_sem] def lSeS:Spec:=⟨[.slice (.int .i64),.slice (.int .i64),.slice (.int .i64),.int .i64],fun d=>(.dat .bool true,[])⟩
theorem lSe_ok:SpecOk Tryz.prog 3 lSeS:=by
 refine fn_ok EX3_ok lSeS Tryz.func3 rfl (by decide) (N:=78) rfl (res:=[.tmp 8]) rfl (by decide) [(1,[(15,.dt),(16,.dt),(17,.dt),(26,.dt)]),(2,[(39,.dt)])] [] [] 100 (by kernel_rfl) ?_
 rintro ⟨a,b,q,(n:Int),_⟩ hw hp
 refine ⟨rfl,fun H hH=>?_⟩
 dsimp only [go_sem] at hw hp ⊢
 change List Int at a b q
 clear hw hp
 have e1:bitsI .and .i64 n 3=n % 4:=andMask n 2 (by omega)
 have e2:shrI .i64 n 2=n / 4:=Int.fdiv_eq_ediv_of_nonneg _ (by decide)
 have e3:bitsI .and .i64 (n / 4) 1=n / 4 % 2:=andMask (n / 4) 1 (by omega)
 simp only [e1,e2,e3]
 have hb0:(0:Int)<=n % 4/\n % 4<(([[],[[120]],[[121],[122]],[]]:List (List Str)).length:Int):=by
  show 0<=n % 4/\n % 4<4
  omega
 have hi1:inR .i64 (1+n / 4 % 2):=by rw [inR_i64]; omega
 have hb1:(0:Int)<=1+n / 4 % 2/\1+n / 4 % 2<=(([bld a,bld b]:List Cq).length:Int):=by
  show 0<=1+n / 4 % 2/\1+n / 4 % 2<=2
  omega
 refine ⟨hb0,by decide,hi1,hb1,?_⟩
 have hx:qP (([[],[[120]],[[121],[122]],[]]:List (List Str)).getD (n % 4).toNat [],List.take (1+n / 4 % 2).toNat [bld a,bld b]):=by
  refine ⟨⟨Nat.le_trans (List.length_take_le' _ _) (show 2<=3 by decide),?_⟩,fun c hc=>?_⟩
  ·have hall:∀ y∈([[],[[120]],[[121],[122]],[]]:List (List Str)),y.length<=1000:=by decide
   exact hall _ (getDm (l:=[[],[[120]],[[121],[122]],[]]) [] (show (n % 4).toNat<4 by omega))
  ·have hc:=List.mem_of_mem_take hc
   rcases List.mem_cons.1 hc with rfl|hc
   ·exact bld_v a
   ·rw [List.mem_singleton.1 hc]; exact bld_v b
 have hz:qP (([],[]):Qry):=⟨⟨Nat.zero_le _,Nat.zero_le _⟩,fun c hc=>by cases hc⟩
 have hzd:zd (.slice .str)=([]:List Str):=rfl
 simp only [hzd]
 have hL:∀ c∈([(([[],[[120]],[[121],[122]],[]]:List (List Str)).getD (n % 4).toNat [],List.take (1+n / 4 % 2).toNat [bld a,bld b]),booQ q,quQ q,([],[])]:List Qry),qP c:=by
  intro c hc
  simp only [List.mem_cons,List.not_mem_nil,or_false] at hc
  rcases hc with rfl|rfl|rfl|rfl
  ·exact hx
  ·exact booQ_P q
  ·exact quQ_P q
  ·exact hz
 have hLl:([(([[],[[120]],[[121],[122]],[]]:List (List Str)).getD (n % 4).toNat [],List.take (1+n / 4 % 2).toNat [bld a,bld b]),booQ q,quQ q,([],[])]:List Qry).length=4:=rfl
 generalize ([(([[],[[120]],[[121],[122]],[]]:List (List Str)).getD (n % 4).toNat [],List.take (1+n / 4 % 2).toNat [bld a,bld b]),booQ q,quQ q,([],[])]:List Qry)=L at hL hLl ⊢
 refine hH.loop (fun i:Nat=>⟨[(11,.dat (.int .i64) (i:Int)),(10,.dat (.slice qryT) L)],[],0⟩) (fun i=>i<=4) (fun i=>4-i) 0 0 (Nat.zero_le _) ?_ ?_
 ·dsimp only [go_sem]
  and_intros<;>first|trivial|rfl|omega
 rintro i hi R hm
 refine hH.run 100 _ _ ?_
 dsimp only [go_sem]
 rw [hLl]
 simp only [Int.toNat_natCast]
 refine ⟨fun d=>?_,fun d=>?_⟩
 ·have d:(i:Int)<((4:Nat):Int):=of_decide_eq_true d
  have hP:=hL _ (getDm (l:=L) (zd qryT) (show i<L.length by omega))
  have hbi:(0:Int)<=(i:Int)/\(i:Int)<((4:Nat):Int):=by omega
  have hii:inR .i64 ((i:Int)+1):=by rw [inR_i64]; omega
  have hi4:i<4:=by omega
  have him:4-(i+1)<4-i:=by omega
  obtain ⟨c,hc⟩:∃ c,L.getD i (zd qryT)=c:=⟨_,rfl⟩
  rw [hc] at hP
  simp only [hc]
  obtain ⟨K,hK⟩:∃ K,sepL c.2 c.1=K:=⟨_,rfl⟩
  simp only [hK]
  have hKl:K.length<=1000000:=by
   rw [<-hK]
   unfold sepL
   split
   ·exact Nat.zero_le _
   split
   ·have h1:=chR_len (D:=c.2) (hd:=c.1) (fun x hx=>(hP.2 x hx).2) c.2.length (l:=[]) (by show 0+_=_; omega)
    have h2:30 ^ c.2.length<=30 ^ 3:=Nat.pow_le_pow_right (by decide) hP.1.1
    have h3:(30:Nat) ^ 3=27000:=by decide
    omega
   ·exact Nat.zero_le _
  refine ⟨hbi,hP,hbi,hP,fun e=>?_,fun e=>?_⟩
  ·exact absurd rfl (of_decide_eq_true e)
  refine hH.loop (fun j:Nat=>⟨[(14,.dat (.int .i64) (j:Int)),(13,.dat (.slice (.slice .str)) K),(12,.dat (.slice (.slice .str)) K),(11,.dat (.int .i64) (i:Int)),(10,.dat (.slice qryT) L)],[],0⟩) (fun j=>j<=K.length) (fun j=>K.length-j) 0 0 (Nat.zero_le _) ?_ ?_
  ·dsimp only [go_sem]
   and_intros<;>first|trivial|rfl|omega
  rintro j hj R2 hm2
  refine hH.run 100 _ _ ?_
  dsimp only [go_sem]
  simp only [Int.toNat_natCast]
  have hjj:∀ h:j<K.length,inR .i64 ((j:Int)+1):=fun h=>by
   have:K.length<=1000000:=hKl
   rw [inR_i64]; omega
  refine ⟨fun d=>?_,fun d=>?_⟩
  ·have d:j<K.length:=by
     have d:(j:Int)<(K.length:Int):=of_decide_eq_true d
     omega
   have hbj:(0:Int)<=(j:Int)/\(j:Int)<(K.length:Int):=by omega
   have hjm:K.length-(j+1)<K.length-j:=by omega
   refine ⟨hbj,hbj,trivial,(fun e=>by cases e),fun _=>⟨hjj d,hm2 _ (j+1) 0 d hjm ?_⟩⟩
   dsimp only [go_sem]
   and_intros<;>first|trivial|rfl|omega
  ·refine ⟨hii,hm _ (i+1) 0 hi4 him ?_⟩
   dsimp only [go_sem]
   and_intros<;>first|trivial|rfl|omega
 ·exact ⟨trivial,trivial⟩
end Go.Proofs.YtdobkkhncfifeabGreat.Gx
