/-
  The schemas of the base, whose columns lie in memory of their own.
-/
import Derived.Test.YtjbnlmamealdgaaRT
import Derived.Test.YtjbnlmamealdgaaHK
import Derived.Great.BuildSlice
import Derived.Great.FillDense
namespace Go.Proofs.Ytjbnlmamealdgaa.Gx
open Go Go.RowKit Tw B Nt
set_option linter.unusedVariables false
set_option linter.unusedSimpArgs false
set_option maxHeartbeats 4000000
set_option maxRecDepth 20000
section
variable {E:Env} {w0 w1 w2:World} {X0 X1:Nat->Prop} {Bo:List Value} {N:Nat} {st st':St} {ρ:List Value} {a:Act} {w w':World} {P:Program} {d:Nat} {Q:Exit->Act->World->Prop} {ops:Array Oper} {o:Oper} {rest:List Oper} {x y:Operand} {b n cap:Nat}
theorem new_row_val (h:Fr w0 X0 Bo N st ρ a w) (hd:d<N) (hb:Below w.heap.size w w') {T:TypeId} {t:Ty} {l:List t.den} {xs:List Value} {v o:Value} (ho:w'.ownsRow w.heap.size T t.size v l.length xs) (h1:∀ c∈xs,c.oneCell'=true)
    (hr:∀ i x,l[i]?=some x->rep t (XX X0 ρ st.ck) w ((xs.drop (i*t.size)).take t.size) x) :
    Fr w0 X0 Bo N ⟨(d,.val o)::st.sl,(st.nx,.row T t l)::st.ck,st.nx+1⟩ (ρ++[v]) (a.put (some d) o) w':=by
 have hv:∀ b,inV v b->w.heap.size<=b/\b<w'.heap.size:=by
  intro b e
  have e:=own_inV ho e
  rcases ho.2 with ⟨rfl,_⟩|⟨g,cap,cur,rfl,h1,h2,_⟩
  ·cases e
  ·cases e; exact ⟨h1,heap_lt h2⟩
 have hg:(ρ++[v])[st.nx]?=some v:=by
  rw [List.getElem?_append_right (by rw [h.nx]; omega),h.nx]; simp
 have ho':w'.ownsRow 0 T t.size v l.length xs:=by
  refine ⟨ho.1,?_⟩
  rcases ho.2 with hn|⟨g,cap,cur,e,h1,h2⟩
  ·exact .inl hn
  ·exact .inr ⟨g,cap,cur,e,Nat.zero_le _,h2⟩
 exact h.grow hb hv (ct:=.row T t l) ⟨v,xs,hg,ho',h1,fun i x hx=>h.rtr hb (fun b e=>(hv b e).1) (hr i x hx)⟩ hd rfl
theorem agg_own {X:Nat->Prop} {nm:List UInt8} {bt:Bool} {c:Nat} {v:Value} (h:m ρ X w (.agg (.cons (.dat .str nm) (.cons (.lit bt) (.cons (.own c) .nil)))) [v]):∃ u,ρ[c]?=some u/\v=.agg #[.string ⟨nm.toArray⟩,.bool bt,u]/\nm.length<=maxLen:=by
 obtain ⟨us,hv,⟨v1,us1,rfl,⟨cs,⟨rfl,hn⟩,e1⟩,v2,us2,rfl,h2,v3,us3,rfl,⟨u,hu,_,h3⟩,h4⟩,_⟩:=h
 have h4:us3=[]:=h4
 subst h4
 have e1:=(List.cons.inj e1).1
 have h2:=(List.cons.inj (show [v2]=[.bool bt] from h2)).1
 have h3:=(List.cons.inj h3).1
 subst h2 h3
 have e1:v1=.string ⟨nm.toArray⟩:=e1
 subst e1
 exact ⟨v3,hu,(List.cons.inj hv).1,hn⟩
theorem fr_row {T:TypeId} {t:Ty} {l:List t.den} {c:Nat} {u:Value} (h:Fr w0 X0 [] N st ρ a w) (hm:get? st.ck c=some (CT.row T t l)) (hu:ρ[c]?=some u) :
    ∃ xs,w.ownsRow w0.heap.size T t.size u l.length xs/\(∀ c∈xs,c.oneCell'=true)/\∀ i x,l[i]?=some x->rep t (XX X0 ρ st.ck) w ((xs.drop (i*t.size)).take t.size) x:=by
 have hm:=get?_mem hm
 obtain ⟨v,xs,hv,ho,h1,hr⟩:=h.cs _ hm
 have hv:ρ[c]?=some v:=hv
 rw [hu] at hv
 cases hv
 refine ⟨xs,⟨ho.1,?_⟩,h1,hr⟩
 rcases ho.2 with hn|⟨g,cap,cur,e,hB,hrest⟩
 ·exact .inl hn
 ·refine .inr ⟨g,cap,cur,e,?_,hrest⟩
  have hb:=(h.bl _ hm g (by rw [inC_of hu,e]; rfl)).2
  exact hb.resolve_right fun h=>inB_nil h
theorem own_below {B:Nat} {T:TypeId} {sz k:Nat} {u:Value} {xs:List Value} (h:w.ownsRow B T sz u k xs) (hb:Below w.heap.size w w'):w'.ownsRow B T sz u k xs:=by
 refine ⟨h.1,?_⟩
 rcases h.2 with hn|⟨g,cap,cur,e,hB,hg,hrest⟩
 ·exact .inl hn
 ·exact .inr ⟨g,cap,cur,e,hB,by rw [hb.block g (heap_lt hg)]; exact hg,hrest⟩
theorem fill4 {A:Array Value} (hA:A.size=12) {a0 a1 a2 b0 b1 b2 c0 c1 c2 d0 d1 d2:Value}:Instr.fill (fun i=>some (i*3,3)) A [(0,.agg #[a0,a1,a2]),(1,.agg #[b0,b1,b2]),(2,.agg #[c0,c1,c2]),(3,.agg #[d0,d1,d2])]=some #[a0,a1,a2,b0,b1,b2,c0,c1,c2,d0,d1,d2]:=by
 have h:=Great.fill_whole (s:=3) (by decide) [.agg #[a0,a1,a2],.agg #[b0,b1,b2],.agg #[c0,c1,c2],.agg #[d0,d1,d2]] A (by simp [Value.cells]) (by rw [hA]; rfl)
 exact h.trans (by simp [Value.cells])
theorem wpList_assign (hg:o.guard=none) (ho:o.op=.assign x) (hK:wpList P ops Q rest (a.put o.dst (a.eval x)) w):wpList P ops Q (o::rest) a w:=by
 refine wpList_plain hg fun K hK'=>?_
 unfold Oper.wp
 simp [execOp,ho,Result.andThen]
 exact hK' _ _ hK
theorem wpList_idxG {T e:TypeId} {te:TE} (hf:TyFact P e te) (hg:o.guard=none) (ho:o.op=.indexAddr T x y) (hu:P.underlying T=some (.slice e)) (hx:a.eval x=.slice (some ⟨b,0,none⟩) n cap) {k:Nat} (hy:a.eval y=.int .i64 (k:Int)) (hk:k<n) (hK:wpList P ops Q rest (a.put o.dst (.pointer (some ⟨b,k*te.ty.size,none⟩))) w):wpList P ops Q (o::rest) a w:=by
 refine wpList_plain hg fun K hK'=>?_
 unfold Oper.wp
 have hsz:=hf.run_size (w:=w)
 have h:(Instr.indexAt T (.slice (some ⟨b,0,none⟩) n cap) (.int .i64 (k:Int))).run P w=.ok (.pointer (some ⟨b,k*te.ty.size,none⟩)) w:=by
  simp [Instr.indexAt,asIntOf,run_underlying hu,hk,hsz,Addr.add_lit]
 simp [execOp,ho,hx,hy,h,Result.andThen]
 exact hK' _ _ hK
theorem wpList_loadG {T T':TypeId} {te:TE} (hf:TyFact P T te) (hg:o.guard=none) (ho:o.op=.load T x) {off:Nat} (hx:a.eval x=.pointer (some ⟨b,off,none⟩)) {C:Array Value} {f:Nat×Nat} (hb:w.heap[b]?=some (.cells C T' f)) {cs:List Value} (hcs:(C.toList.drop off).take te.ty.size=cs) (hl:cs.length=te.ty.size)
    (hK:wpList P ops Q rest (a.put o.dst (te.ty.wrap cs)) w):wpList P ops Q (o::rest) a w:=by
 refine wpList_plain hg fun K hK'=>?_
 unfold Oper.wp
 have h:(Instr.loadAt T (.pointer (some ⟨b,off,none⟩))).run P w=.ok (te.ty.wrap cs) w:=by
  simp only [Instr.loadAt,Instr.sureAddr,Sem.run_bind,Sem.run_pure,Result.andThen_ok]
  exact run_loadVar hf hb hcs hl
 simp [execOp,ho,hx,h,Result.andThen]
 exact hK' _ _ hK
end
def schN (i:Nat):Sch:=schs.getD i ([],false,[])
def SchOwn (base:Nat) (w:World) (v:Value):Prop :=
 ∃ b C fr,v=.slice (some ⟨b,0,none⟩) 4 4/\base<=b/\w.heap[b]?=some (.cells C 24 fr) /\
  ∀ i,i<4->∃ u xs,(C.toList.drop (i*3)).take 3=[.string ⟨(schN i).1.toArray⟩,.bool (schN i).2.1,u]/\w.ownsRow base 31 3 u (schN i).2.2.length xs/\(∀ c∈xs,c.oneCell'=true) /\
   ∀ j x,(schN i).2.2[j]?=some x->rep colT (fun _=>False) w ((xs.drop (j*3)).take 3) x
theorem schs_own (w:World):Calls Try.prog 5 #[] w (fun e w'=>∃ v,e=.returned v/\SchOwn w.heap.size w' v/\Below w.heap.size w w'):=by
 refine calls_of_wp Try.func5 rfl ?_
 generalize hQ:bodyPost _ _ _=Q
 have hf0:Fr w (fun _=>False) [] 21 ⟨[],[],0⟩ [] { tmps:=#[]++Array.replicate (21-0) undef,defers:=[] } w:=fr_fresh rfl (by simp) (fun t x hx=>by cases hx)
 have hX0:∀ b,(fun _:Nat=>False) b->b<w.heap.size:=fun b h=>h.elim
 refine wp_seq (wp_region_list ?_)
 refine pre_ok (ann:=[]) (ds:=dsts [_]) (l:=[_]) (r:=[]) ERS_ok hX0 (fun g=>dsts_ok _ g) hf0 (ps0:=[]) rfl trivial (List.all_eq_true.1 (by rfl)) fun ρ1 a1 w1 hf1=>wpList_nil ?_
 refine wp_seq (wp_region_list ?_)
 refine pre_ok (ann:=[]) (ds:=dsts [_,_,_,_,_,_]) (l:=[_,_,_,_,_,_]) (r:=[]) ERS_ok hX0 (fun g=>dsts_ok _ g) hf1 (ps0:=[]) rfl trivial (List.all_eq_true.1 (by rfl)) fun ρ2 a2 w2 hf2=>wpList_nil ?_
 refine wp_seq (wp_region_list ?_)
 refine pre_ok (ann:=[(8,.ag),(11,.ag),(15,.ag),(19,.ag)]) (ds:=dsts [_,_,_,_,_,_,_,_,_,_,_,_,_,_,_,_,_]) (l:=[_,_,_,_,_,_,_,_,_,_,_,_,_,_,_]) (r:=[_,_]) ERS_ok hX0 (fun g=>dsts_ok _ g) hf2 (ps0:=[]) rfl trivial (List.all_eq_true.1 (by rfl)) fun ρ3 a3 w3 hf3=>?_
 have m8:=lk_ok hf3.sl (x:=.tmp 8) rfl rfl
 have m11:=lk_ok hf3.sl (x:=.tmp 11) rfl rfl
 have m15:=lk_ok hf3.sl (x:=.tmp 15) rfl rfl
 have m19:=lk_ok hf3.sl (x:=.tmp 19) rfl rfl
 obtain ⟨u0,r0,e0,-⟩:=agg_own m8
 obtain ⟨u1,r1,e1,-⟩:=agg_own m11
 obtain ⟨u2,r2,e2,-⟩:=agg_own m15
 obtain ⟨u3,r3,e3,-⟩:=agg_own m19
 obtain ⟨x0,o0,n0,p0⟩:=fr_row (T:=31) (t:=colT) (l:=[colA,colB]) hf3 rfl r0
 obtain ⟨x1,o1,n1,p1⟩:=fr_row (T:=31) (t:=colT) (l:=[colA]) hf3 rfl r1
 obtain ⟨x2,o2,n2,p2⟩:=fr_row (T:=31) (t:=colT) (l:=[([107],1,true),([118],1,false)]) hf3 rfl r2
 obtain ⟨x3,o3,n3,p3⟩:=fr_row (T:=31) (t:=colT) (l:=[colA,colB]) hf3 rfl r3
 obtain ⟨ie,hie,hz,hs,hby⟩:=(ERS_ok.fact (show ERS.te 24=some _ from rfl)).info
 have hs3:ie.size=3:=hs
 have hus:Try.prog.underlying 27=some (.slice 24):=by kernel_rfl
 refine wpList_buildSlice rfl 27 24 4 #[(0,.tmp 8),(1,.tmp 11),(2,.tmp 15),(3,.tmp 19)] rfl #[.string ⟨#[82]⟩,.bool false,u0,.string ⟨#[83]⟩,.bool false,u1,.string ⟨#[75]⟩,.bool false,u2,.string ⟨#[67]⟩,.bool true,u3] ie _ hus hie hz (by rw [hs3]; decide) (by rw [hs3]; decide) ?_ ?_
 ·rw [hs3]
  have q0:a3.eval (.tmp 8)=_:=e0
  have q1:a3.eval (.tmp 11)=_:=e1
  have q2:a3.eval (.tmp 15)=_:=e2
  have q3:a3.eval (.tmp 19)=_:=e3
  simp only [List.map_toArray,List.map_cons,List.map_nil,q0,q1,q2,q3]
  refine fill4 ?_
  simp
 have hb4:=below_alloc w3 (.cells #[.string ⟨#[82]⟩,.bool false,u0,.string ⟨#[83]⟩,.bool false,u1,.string ⟨#[75]⟩,.bool false,u2,.string ⟨#[67]⟩,.bool true,u3] 24)
 refine wpList_assign rfl rfl (wpList_nil (wp_ret ?_))
 rw [<-hQ]
 have hsz:=hf3.sz
 refine bodyPost_ret (v:=.slice (some ⟨w3.heap.size,0,none⟩) 4 4) ?_ ?_ ⟨_,rfl,?_,(hf3.kp.below hb4).to_below⟩
 ·simp [results,Act.put,Act.eval,hsz]
 ·rw [defers_put,defers_put]; exact hf3.dn
 refine ⟨w3.heap.size,_,_,rfl,hf3.kp.size,heap_alloc_new w3 _,fun i hi=>?_⟩
 match i,hi with
 | 0,_=>exact ⟨u0,x0,rfl,own_below o0 hb4,n0,p0⟩
 | 1,_=>exact ⟨u1,x1,rfl,own_below o1 hb4,n1,p1⟩
 | 2,_=>exact ⟨u2,x2,rfl,own_below o2 hb4,n2,p2⟩
 | 3,_=>exact ⟨u3,x3,rfl,own_below o3 hb4,n3,p3⟩
end Go.Proofs.Ytjbnlmamealdgaa.Gx
