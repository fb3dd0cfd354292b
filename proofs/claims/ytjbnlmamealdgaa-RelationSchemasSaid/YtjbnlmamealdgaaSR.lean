/-
  RelationSchemas: the law writes into a schema of the base, whose columns lie in memory of their own.
-/
import Derived.Test.YtjbnlmamealdgaaRB
import Derived.Test.YtjbnlmamealdgaaSO
import Derived.Test.YtjbnlmamealdgaaSh
import Derived.Test.YtjbnlmamealdgaaAT
namespace Go.Proofs.Ytjbnlmamealdgaa.Gx
open Go Go.RowKit Tw B Nt
set_option linter.unusedVariables false
set_option linter.unusedSimpArgs false
set_option maxHeartbeats 4000000
set_option maxRecDepth 20000
def fitB (s:Sch):Bool:=decide (s.1.length<=40)&&decide (s.2.2.length<=8)&&s.2.2.all fun c=>decide (c.1.length<=40)
@[go_sem] def fitS:Spec:=⟨[schT],fun d=>(.dat .bool (fitB d.1),[])⟩
theorem fit_ok:SpecOk Try.prog 4 fitS:=by
 refine fn_ok ERG_ok fitS Try.func4 rfl (by decide) (N:=29) rfl (res:=[.tmp 2]) rfl (by decide) [] [] [] 100 (by kernel_rfl) ?_
 rintro ⟨s,_⟩ hw hp
 refine ⟨rfl,fun H hH=>?_⟩
 dsimp only [go_sem] at hw hp ⊢
 obtain ⟨nm,ct,cs⟩:=s
 change List Col at cs
 change List UInt8 at nm
 obtain ⟨⟨hn,⟨hl,-⟩⟩,-⟩:=hw
 change List.length nm<=9223372036854775807 at hn
 simp only [imp_self,true_and]
 refine ⟨fun h=>?_,fun h=>?_⟩<;>simp only [Bool.or_eq_true,Bool.or_eq_false_iff,decide_eq_true_eq,decide_eq_false_iff_not] at h
 ·refine ⟨?_,trivial⟩
  symm
  rw [Bool.eq_false_iff]
  intro e
  unfold fitB at e
  simp only [Bool.and_eq_true,decide_eq_true_eq] at e
  omega
 obtain ⟨h1,h2⟩:=h
 have h1:¬(40:Int)<(nm.length:Int):=h1
 have h2:¬(8:Int)<(cs.length:Int):=h2
 refine hH.loop (fun i:Nat=>⟨[(3,.dat (.int .i64) (i:Int)),(1,.ref 0 0)],[(0,.box 24 (.cons (.dat .str nm) (.cons (.dat .bool ct) (.cons (.dat (.slice colT) cs) .nil))))],1⟩) (fun i=>i<=cs.length/\∀ c∈cs.take i,c.1.length<=40) (fun i=>cs.length-i) 0 1 ⟨Nat.zero_le _,fun c hc=>by simp at hc⟩ ?_ ?_
 ·dsimp only [go_sem]
  and_intros<;>first|trivial|rfl|omega
 ·rintro i ⟨hi,hq⟩ R hm
  refine hH.run 100 _ _ ?_
  dsimp only [go_sem]
  simp only [Int.toNat_natCast]
  refine ⟨fun d=>?_,fun d=>?_⟩<;>simp only [decide_eq_true_eq,decide_eq_false_iff_not] at d
  ·have d:i<cs.length:=by omega
   have hb:(0:Int)<=(i:Int)/\(i:Int)<(cs.length:Int):=by omega
   have hz:cs.getD i (zd colT)=cs.getD i ([],0,false):=rfl
   have hmm:cs.getD i ([],0,false)∈cs:=getDm _ d
   have hsn:cs.take (i+1)=cs.take i++[cs.getD i ([],0,false)]:=take_snoc _ d
   simp only [hz]
   generalize cs.getD i ([],0,false)=c at hmm hsn ⊢
   obtain ⟨cn,c2⟩:=c
   change List UInt8 at cn
   refine ⟨hb,fun e=>?_,fun e=>⟨by rw [inR_i64]; omega,hm _ (i+1) 1 ⟨d,?_⟩ (by omega) ?_⟩⟩<;>simp only [decide_eq_true_eq,decide_eq_false_iff_not] at e
   ·have e:(40:Int)<(cn.length:Int):=e
    refine ⟨?_,trivial⟩
    symm
    rw [Bool.eq_false_iff]
    intro f
    unfold fitB at f
    simp only [Bool.and_eq_true,decide_eq_true_eq,List.all_eq_true] at f
    have:=f.2 _ hmm
    have:cn.length<=40:=this
    omega
   ·have e:¬(40:Int)<(cn.length:Int):=e
    intro c hc
    rw [hsn,List.mem_append] at hc
    rcases hc with hc|hc
    ·exact hq c hc
    ·rw [List.mem_singleton.1 hc]
     show cn.length<=40
     omega
   ·dsimp only [go_sem]
    and_intros<;>first|trivial|rfl|omega
  ·have d:i=cs.length:=by omega
   subst d
   rw [List.take_length] at hq
   refine ⟨?_,trivial⟩
   symm
   unfold fitB
   simp only [Bool.and_eq_true,decide_eq_true_eq,List.all_eq_true]
   exact ⟨⟨by show nm.length<=40; omega,by show cs.length<=8; omega⟩,fun c hc=>hq c hc⟩
@[go_sem] noncomputable def ESC:Env:=((ERG).add 6 bAtS).add 4 fitS
theorem ESC_ok:ESC.Ok:=((ERG_ok).add bAt_ok).add fit_ok
@[go_sem] def lScS:Spec:=⟨[schT,.str,.slice (.int .i64)],fun d=>(.dat .bool true,[])⟩
theorem lSc_ok:SpecOk Try.prog 3 lScS:=by
 refine fn_ok ESC_ok lScS Try.func3 rfl (by decide) (N:=85) rfl (res:=[.tmp 6]) rfl (by decide) [(12,[(1000000,.mx [])]),(15,[(1000000,.mx [])])] [(15,[1])] [3] 100 (by kernel_rfl) ?_
 rintro ⟨s,nm,l,_⟩ hw hp
 refine ⟨rfl,fun H hH=>?_⟩
 dsimp only [go_sem] at hw hp ⊢
 change List Int at l
 clear hw hp
 change List UInt8 at nm
 simp only [imp_self,true_and]
 refine ⟨fun _=>trivial,fun _=>?_⟩
 obtain ⟨sn,sc,sl⟩:=s
 change List Col at sl
 refine hH.weak ⟨[(3,.ref 0 0),(1,.dat .str nm),(2,.dat (.slice (.int .i64)) l)],[(0,.box 24 (.cons (.dat .str sn) (.cons (.dat .bool sc) (.cons (.dat (.slice colT) sl) .nil))))],1⟩ 1 ?_ ?_
 ·dsimp only [go_sem]
  and_intros<;>first|trivial|rfl|omega
 refine hH.raw fun w0 X0 Bo Q hnb hE hX0 hfin ρ a w hf=>?_
 have hBo:Bo=[]:=List.length_eq_zero_iff.1 hnb.symm
 subst hBo
 refine wp_region_list ?_
 refine wpList_plain rfl fun K hK=>?_
 have hcall:∀ o:Oper,o.op=.call { callee:=.value (.func 5),args:=#[],argTypes:=#[] }->Does Try.prog a.eval o w (fun v w'=>SchOwn w.heap.size w' v/\Below w.heap.size w w'):=fun o ho=>by
  have hc:=callFunc_ok (P:=Try.prog) Try.func5 rfl (by decide) #[] w
  unfold Does
  obtain ⟨dd,op,ty,ps,af,gd⟩:=o
  subst ho
  rw [execOp_call_go]
  simp only [Array.map_empty,hc]
  exact (schs_own w).mono fun e w' ⟨v,h1,h2,h3⟩=>⟨v,h1,h2,h3⟩
 refine (hcall _ rfl).wp fun v w1 hv=>hK _ _ ?_
 obtain ⟨⟨b,C,fr,rfl,hbb,hC,hrow⟩,hbl⟩:=hv
 have b0:0<=bat l 0:=bat_nn l (by decide)
 have b1:bat l 0<=65535+0:=bat_le l (by decide)
 obtain ⟨k,hk,hk4⟩:∃ k:Nat,(bat l 0).tmod 4=(k:Int)/\k<4:=⟨(bat l 0 % 4).toNat,by rw [Int.tmod_eq_emod_of_nonneg b0]; omega,by omega⟩
 obtain ⟨u,xs,hc3,hown,hone,hrep⟩:=hrow k hk4
 have hcl:1<=(schN k).2.2.length/\(schN k).2.2.length<=2/\(schN k).1.length<=1:=by
  revert hk4
  clear hk hc3 hown hrep
  revert k
  decide
 generalize schN k=z at hc3 hown hrep hcl
 obtain ⟨zn,zc,zl⟩:=z
 change List Col at zl
 change List UInt8 at zn
 have hzn:zn.length<=maxLen:=Nat.le_trans hcl.2.2 (by decide)
 have hf1:=new_row_val (N:=85) (d:=16) hf (by decide) hbl (t:=colT) (l:=zl) (o:=.slice (some ⟨b,0,none⟩) 4 4) hown hone hrep
 refine preL_ok (ann:=[]) (ds:=dsts [_,_,_,_,_,_,_,_]) (l:=[_,_,_]) (r:=[_,_,_,_]) ESC_ok hX0 (fun g=>dsts_ok _ g) hf1 (ps0:=[]) rfl ?_ (List.all_eq_true.1 (by rfl)) fun a2 w2 hf2 hb2=>?_
 ·dsimp only [go_sem,evL]
  exact ⟨⟨by decide,by decide⟩,by decide,by rw [inR_i64]; omega,trivial⟩
 have hC2:w2.heap[b]?=_:=(hb2.block b (heap_lt hC)).trans hC
 have e16:=(List.cons.inj (lk_ok hf2.sl (x:=.tmp 16) rfl rfl)).1
 have e19:=(m_int (lk_ok hf2.sl (x:=.tmp 19) rfl rfl)).1
 rw [hk] at e19
 have htf:=ESC_ok.fact (show ESC.te 24=some _ from rfl)
 refine wpList_idxG htf rfl rfl (by kernel_rfl) e16 e19 hk4 ?_
 have hf4:=hf2.pure hX0 (Below.refl _ _) (d:=some 20) (r:=.val (.pointer (some ⟨b,k*3,none⟩))) (v:=.pointer (some ⟨b,k*3,none⟩)) (by intro t e; cases e; show 20<85; decide) rfl
 have e20:=(List.cons.inj (lk_ok hf4.sl (x:=.tmp 20) rfl rfl)).1
 refine wpList_loadG htf rfl rfl e20 hC2 hc3 rfl ?_
 have hnx:ρ.length=1:=hf.nx
 have hu1:(ρ++[u])[1]?=some u:=by rw [List.getElem?_append_right (by omega),hnx]; rfl
 have huo:u.oneCell'=true:=by rcases hown.2 with ⟨rfl,_⟩|⟨g,cap,cur,rfl,_⟩<;>rfl
 have hf5:=hf4.pure hX0 (Below.refl _ _) (d:=some 21) (r:=.agg (.cons (.dat .str zn) (.cons (.dat .bool zc) (.cons (.own 1) .nil)))) (v:=.agg #[.string ⟨zn.toArray⟩,.bool zc,u]) (by intro t e; cases e; show 21<85; decide)
  ⟨_,rfl,⟨_,_,rfl,⟨_,⟨rfl,hzn⟩,rfl⟩,_,_,rfl,m_bool_of,_,_,rfl,⟨u,hu1,huo,rfl⟩,rfl⟩,by
   intro x hx
   simp only [List.mem_cons,List.not_mem_nil,or_false] at hx
   rcases hx with rfl|rfl|rfl
   ·rfl
   ·rfl
   ·exact huo⟩
 refine pre_ok (ann:=[]) (ds:=dsts [_,_,_,_,_,_,_,_]) (l:=[_,_]) (r:=[]) ESC_ok hX0 (fun g=>dsts_ok _ g) hf5 (ps0:=[]) rfl ?_ (List.all_eq_true.1 (by rfl)) fun ρ6 a6 w6 hf6=>wpList_nil ?_
 ·trivial
 clear hcall
 refine run_h hnb hE hX0 hfin (fun H hH hraw=>?_) (by kernel_rfl) ρ6 a6 w6 hf6
 have hcl1:1<=zl.length:=hcl.1
 have hcl2:zl.length<=2:=hcl.2.1
 refine hH.weak ⟨[(7,.ref 2 0),(3,.ref 0 0),(1,.dat .str nm),(2,.dat (.slice (.int .i64)) l)],[(0,.box 24 (.cons (.dat .str sn) (.cons (.dat .bool sc) (.cons (.dat (.slice colT) sl) .nil)))),(1,.row 31 colT zl),(2,.box 24 (.cons (.dat .str zn) (.cons (.dat .bool zc) (.cons (.own 1) .nil))))],3⟩ 3 ?_ ?_
 ·dsimp only [go_sem]
  and_intros<;>first|trivial|rfl|omega
 clear hraw hfin hf hf1 hf2 hf4 hf5 hf6
 refine hH.run 100 _ _ ?_
 dsimp only [go_sem]
 have c0:0<=bat l 1:=bat_nn l (by decide)
 have c1:bat l 1<=65535+1:=bat_le l (by decide)
 have d0:0<=bat l 2:=bat_nn l (by decide)
 have d1:bat l 2<=65535+2:=bat_le l (by decide)
 have m1:(bat l 1).tmod 6=bat l 1 % 6:=Int.tmod_eq_emod_of_nonneg c0
 have m2:(bat l 2).tmod 4=bat l 2 % 4:=Int.tmod_eq_emod_of_nonneg d0
 rw [m1,m2]
 have r6:inR .i64 (bat l 1 % 6):=by rw [inR_i64]; omega
 have r4:inR .i64 (bat l 2 % 4):=by rw [inR_i64]; omega
 simp only [imp_self,true_and,and_true,decide_true,Bool.and_self]
 have q1:(0:Int)<(zl.length:Int):=by omega
 have q2:lo .i64<=(zl.length:Int)-1:=by simp only [lo]; omega
 have q3:(zl.length:Int)-1<=hi .i64:=by simp only [hi]; omega
 have q4:(0:Int)<=(zl.length:Int)-1:=by omega
 have q5:(zl.length:Int)-1<(zl.length:Int):=by omega
 have q6:Int.toNat 0<zl.length:=hcl1
 have q7:((zl.length:Int)-1).toNat<zl.length:=by omega
 and_intros<;>intros<;>and_intros<;>intros<;>and_intros<;>intros<;>and_intros<;>intros<;>and_intros<;>intros<;>and_intros<;>first|trivial|exact r6.1|exact r6.2|exact r4.1|exact r4.2|exact q1|exact q2|exact q3|exact q4|exact q5|exact q6|exact q7|decide
theorem schSh:Sh Try.prog schT (.inl 24) :=
 .pair Try.underlying24 (by kernel_rfl) (.more rfl (by kernel_rfl) (.str Try.underlying9) (.more rfl (by kernel_rfl) (.bool Try.underlying4) (.last rfl (by kernel_rfl) (.slice Try.underlying22 (by kernel_rfl) (.pair Try.underlying31 (by kernel_rfl) (.more rfl (by kernel_rfl) (.str Try.underlying9) (.more rfl (by kernel_rfl) (.int Try.underlying3) (.last rfl (by kernel_rfl) (.bool Try.underlying4)))))))))
end Go.Proofs.Ytjbnlmamealdgaa.Gx
