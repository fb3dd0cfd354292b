/-
  A row of rows made anew out of its parts, `append(append(append([][]int{}, out[:at]...), []int{i}), out[at:]...)`, by hand.
-/
import Derived.Test.YtdobkkhncfifeacGreatTF
namespace Go.Proofs.YtdobkkhncfifeacGreat.Gx
open Go Go.RowKit Tw B Nt
set_option linter.unusedVariables false
set_option linter.unusedSimpArgs false
set_option maxHeartbeats 4000000
set_option maxRecDepth 20000
section
variable {E:Env} {w0 w1 w2:World} {X0 Y:Nat->Prop} {Bo:List Value} {N:Nat} {st st':St} {ρ:List Value} {a:Act} {w w':World} {P:Program} {ps:List Prop} {ck:List (Nat×CT)} {nx:Nat}
theorem Fr.nmake2 (h:Fr w0 X0 Bo 0 ⟨[],ck,nx⟩ ρ act0 w) {ds:List Nat} {us:List Value} {T Ti:TypeId} {o:Bool} {t:Ty} {ll:List (List t.den)} {v':Value} (hos:w'.os=w.os/\w'.tape=w.tape/\w'.output=w.output) (hsz:w.heap.size<=w'.heap.size)
    (hbl:∀ b,b<w.heap.size->w'.heap[b]?=w.heap[b]?) (ho:w'.ownsRow 0 T 1 v' us.length us) (h1:∀ u∈us,u.oneCell'=true) (hlen:us.length=ll.length)
    (hrows:∀ (i:Nat) (u:Value) (l:List t.den),us[i]?=some u->ll[i]?=some l->(Rw 0 (XX X0 ρ ck) w Ti t u l/\∀ b,blk u=some b->∃ y∈ck,y.1∈ds/\inC ρ y.1 b)∨((∀ Y,Rw 0 Y w' Ti t u l)/\∀ b,blk u=some b->w.heap.size<=b/\b<w'.heap.size))
    (hdist:∀ (i j:Nat) (u u':Value),us[i]?=some u->us[j]?=some u'->i≠j->∀ b,blk u=some b->blk u'≠some b)
    (hvb:∀ b,blk v'=some b->w.heap.size<=b) (hvd:∀ u∈us,∀ b,blk u=some b->blk v'≠some b) :
    ∃ ρ',Fr w0 X0 Bo 0 ⟨[],(nx,.nrow T o (nx+1) none)::(nx+1,.bag Ti t ll)::delL ck ds,nx+2⟩ ρ' act0 w' /\
     (∀ {y:AV} {us:List Value},m ρ (XX X0 ρ ck) w y us->m ρ' (XX X0 ρ' ((nx,.nrow T o (nx+1) none)::(nx+1,.bag Ti t ll)::delL ck ds)) w' y us)/\ρ'[nx]?=some v':=by
 have hnx:ρ.length=nx:=h.nx
 have hn0:(ρ++[v',Value.tuple us.toArray])[nx]?=some v':=by
  have:=at_new (vs:=[v',Value.tuple us.toArray]) hnx 0
  rwa [Nat.add_zero] at this
 have hn1:(ρ++[v',Value.tuple us.toArray])[nx+1]?=some (.tuple us.toArray):=at_new (vs:=[v',Value.tuple us.toArray]) hnx 1
 have hin0:∀ b,inC (ρ++[v',Value.tuple us.toArray]) nx b->blk v'=some b:=fun b hb=>own_inV ho (by rw [<-inC_of hn0]; exact hb)
 have hin1:∀ b,inC (ρ++[v',Value.tuple us.toArray]) (nx+1) b->∃ u∈us,blk u=some b:=by
  intro b hb
  rw [inC_of hn1] at hb
  obtain ⟨u,hu,e⟩:=hb
  exact ⟨u,hu,e⟩
 have hub:∀ u∈us,∀ b,blk u=some b->b<w'.heap.size/\((∃ y∈ck,y.1∈ds/\inC ρ y.1 b)∨w.heap.size<=b):=by
  intro u hu b hb
  obtain ⟨i,hi⟩:=List.mem_iff_getElem?.1 hu
  have hil:i<us.length:=by
   rcases Nat.lt_or_ge i us.length with h'|h'
   ·exact h'
   ·rw [List.getElem?_eq_none h'] at hi; cases hi
  rcases hrows i u _ hi (List.getElem?_eq_getElem (by omega)) with ⟨_,h2⟩|⟨_,h2⟩
  ·obtain ⟨y,hy,hyd,hyi⟩:=h2 b hb
   exact ⟨Nat.lt_of_lt_of_le (h.bl y hy b hyi).1 hsz,.inl ⟨y,hy,hyd,hyi⟩⟩
  ·exact ⟨(h2 b hb).2,.inr (h2 b hb).1⟩
 have hlt':∀ b,blk v'=some b->b<w'.heap.size:=by
  intro b e
  rcases ho.2 with ⟨rfl,_⟩|⟨g,cap,cur,rfl,_,hh,_⟩
  ·cases e
  ·cases e; exact heap_lt hh
 obtain ⟨q1,q2⟩:=h.remake (ds:=ds) (new:=[(nx,.nrow T o (nx+1) none),(nx+1,.bag Ti t ll)]) (vs:=[v',.tuple us.toArray]) (w':=w') hos hsz (fun b hb _=>hbl b hb) (by simp) (by
     intro x hx
     simp only [List.mem_cons,List.not_mem_nil,or_false] at hx
     rcases hx with rfl|rfl
     ·exact ⟨.inr (Nat.le_refl _),by simp⟩
     ·exact ⟨.inr (Nat.le_succ _),by simp⟩) (by
     intro x hx b hb
     simp only [List.mem_cons,List.not_mem_nil,or_false] at hx
     rcases hx with rfl|rfl
     ·have:=hin0 b hb
      exact ⟨hlt' b this,.inr (hvb b this)⟩
     ·obtain ⟨u,hu,e⟩:=hin1 b hb
      exact hub u hu b e) (by
     intro x hx y hy hne b e1 e2
     simp only [List.mem_cons,List.not_mem_nil,or_false] at hx hy
     rcases hx with rfl|rfl<;>rcases hy with rfl|rfl
     ·exact hne rfl
     ·obtain ⟨u,hu,e⟩:=hin1 b e2
      exact hvd u hu b e (hin0 b e1)
     ·obtain ⟨u,hu,e⟩:=hin1 b e1
      exact hvd u hu b e (hin0 b e2)
     ·exact hne rfl) (by
     intro x hx T l e
     simp only [List.mem_cons,List.not_mem_nil,or_false] at hx
     rcases hx with rfl|rfl<;>cases e) (by
     intro Y hY hE x hx
     simp only [List.mem_cons,List.not_mem_nil,or_false] at hx
     rcases hx with rfl|rfl
     ·exact ⟨v',us,us.toArray,hn0,hn1,ho,h1,fun j _ _=>rfl⟩
     ·refine ⟨us.toArray,hn1,hlen,fun i u l hu hl=>?_,hdist⟩
      rcases hrows i u l hu hl with ⟨g1,g2⟩|⟨g1,_⟩
      ·refine rw_tr g1 hY hE fun b hb=>?_
       obtain ⟨y,hy,_,hyi⟩:=g2 b hb
       exact hbl b (h.bl y hy b hyi).1
      ·exact g1 Y)
 exact ⟨_,q1,fun hm=>q2 hm,hn0⟩
def Rd (B:Nat) (w:World) (v:Value) (n:Nat) (us:List Value):Prop:=(v=.slice none 0 0/\n=0)∨∃ ad cap,v=.slice (some ad) n cap/\∀ w':World,(∀ b,b<B->w'.heap[b]?=w.heap[b]?)->∀ (j:Nat) (c:Value),us[j]?=some c->w'.cell? (ad.add j)=some c
theorem own_parts {T Ts:TypeId} {v:Value} {n p:Nat} {us:List Value} (hu:P.underlying Ts=some (.slice T)) {te:TE} (hf:TyFact P T te) (hs1:te.ty.size=1) (ho:w.ownsRow 0 T 1 v n us) (hp:p<=n) :
    (∃ v1,(∀ w1,(Instr.sliceAt Ts v none (some (.int .i64 (p:Int))) none).run P w1=.ok v1 w1)/\Rd w.heap.size w v1 p (us.take p)) /\
    (∃ v2,(∀ w1,(Instr.sliceAt Ts v (some (.int .i64 (p:Int))) none none).run P w1=.ok v2 w1)/\Rd w.heap.size w v2 (n-p) (us.drop p)):=by
 have hel:P.elem Ts=T:=by unfold Program.elem; rw [hu]
 have hu':P.underlying Ts=some (.slice (P.elem Ts)):=by rw [hel]; exact hu
 obtain ⟨inf,hi,hz,hs,hb⟩:=hf.info
 have hsz:∀ w1,(sizeOf (P.elem Ts)).run P w1=.ok 1 w1:=fun w1=>by rw [hel]; simp [sizeOf,typeInfo,hi,hs,hs1]
 have key:∀ (ad:Option Addr) (len cap:Nat),p<=len->len<=cap->(∀ w1,(Instr.sliceAt Ts (.slice ad len cap) none (some (.int .i64 (p:Int))) none).run P w1=.ok (sliced ad 0 p cap 1) w1)/\∀ w1,(Instr.sliceAt Ts (.slice ad len cap) (some (.int .i64 (p:Int))) none none).run P w1=.ok (sliced ad p len cap 1) w1:=by
  intro ad len cap h1 h2
  constructor
  ·intro w1
   rw [run_sliceAt_slice (h:=hu'),run_slice_h (ht:=hu') (h0:=by omega) (h2:=by omega),hsz]
   simp [Result.andThen]
  ·intro w1
   rw [run_sliceAt_slice (h:=hu'),run_slice_l (ht:=hu') (h0:=by omega) (h1:=by omega),hsz]
   simp [Result.andThen]
 obtain ⟨hlen,hcase⟩:=ho
 rw [Nat.mul_one] at hlen
 rcases hcase with ⟨rfl,rfl⟩|⟨g,cap,cur,rfl,_,hh,hnc,hcm,hcs,htk⟩
 ·have hp0:p=0:=by omega
  subst hp0
  obtain ⟨k1,k2⟩:=key none 0 0 (Nat.le_refl _) (Nat.le_refl _)
  exact ⟨⟨_,k1,.inl ⟨rfl,rfl⟩⟩,⟨_,k2,.inl ⟨rfl,rfl⟩⟩⟩
 ·obtain ⟨k1,k2⟩:=key (some ⟨g,0,none⟩) n cap hp hnc
  have hcell:∀ w':World,(∀ b,b<w.heap.size->w'.heap[b]?=w.heap[b]?)->∀ (j:Nat) (c:Value),us[j]?=some c->w'.cell? ⟨g,j,none⟩=some c:=by
   intro w' hb j c hj
   rw [<-htk,List.getElem?_take] at hj
   split at hj
   ·simp [World.cell?,hb g (heap_lt hh),hh]
    simpa using hj
   ·cases hj
  refine ⟨⟨_,k1,.inr ⟨⟨g,0,none⟩,cap,?_,fun w' hb j c hj=>?_⟩⟩,⟨_,k2,?_⟩⟩
  ·unfold sliced
   rcases Nat.eq_zero_or_pos cap with e|e
   ·rw [if_pos e]; simp
   ·rw [if_neg (by omega)]; simp [Addr.add_lit]
  ·rw [Addr.add_lit,Nat.zero_add]
   rw [List.getElem?_take] at hj
   split at hj
   ·exact hcell w' hb j c hj
   ·cases hj
  ·unfold sliced
   by_cases e:cap=p
   ·have hnp:n=p:=by omega
    subst hnp
    rw [if_pos e]
    refine .inr ⟨_,_,rfl,fun w' hb j c hj=>?_⟩
    rw [List.drop_of_length_le (by omega)] at hj
    cases hj
   ·rw [if_neg e]
    refine .inr ⟨_,_,rfl,fun w' hb j c hj=>?_⟩
    show w'.cell? ((Addr.add ⟨g,0,none⟩ (p*1)).add j)=some c
    rw [Nat.mul_one,Addr.add_lit,Addr.add_lit,Nat.zero_add]
    rw [List.getElem?_drop] at hj
    exact hcell w' hb _ c hj
theorem Rd.src {B:Nat} {v:Value} {n:Nat} {us:List Value} (h:Rd B w v n us) (hb:∀ b,b<B->w'.heap[b]?=w.heap[b]?):(v=.slice none 0 0/\n=0)∨∃ ad cap,v=.slice (some ad) n cap/\∀ (j:Nat) (c:Value),us[j]?=some c->w'.cell? (ad.add j)=some c:=by
 rcases h with h|⟨ad,cap,h1,h2⟩
 ·exact .inl h
 ·exact .inr ⟨ad,cap,h1,h2 w' hb⟩
theorem wl_value {ops:Array Oper} {o:Oper} {rest:List Oper} {v:Value} {Q:Exit->Act->World->Prop} (hg:o.guard=none) (hr:(execOp a.eval o).run P w=.ok (.value v) w') (h:wpList P ops Q rest (a.put o.dst v) w'):wpList P ops Q (o::rest) a w:=wpList_plain hg fun K hK=>wp_value hr (hK _ _ h)
theorem hrow_app {Tss T:TypeId} {es:TE} {B:Nat} {v u:Value} {n m:Nat} {xs news:List Value} {ty:TypeId} (hu:P.underlying Tss=some (.slice T)) (hf:TyFact P T es) (hs1:es.ty.size=1) (hby:es.bytes<=1000) (hB:B<=w.heap.size) (ho:w.ownsRow B T 1 v n xs) (hl:news.length=m) (h1:∀ c∈news,c.oneCell'=true)
    (hs:(u=.slice none 0 0/\m=0)∨∃ ad cap,u=.slice (some ad) m cap/\∀ (j:Nat) (c:Value),news[j]?=some c->w.cell? (ad.add j)=some c) (hn:n+m<=10000000) :
    ∃ v' w',(Builtin.append_ #[Tss,Tss] ty #[v,u]).run P w=.ok v' w'/\w'.ownsRow B T 1 v' (n+m) (xs++news)/\Below B w w'/\(∀ k,k<w.heap.size->blk v≠some k->w'.heap[k]?=w.heap[k]?)/\∀ b,blk v'=some b->blk v=some b∨w.heap.size<=b:=by
 have ho':w.ownsRow B T es.ty.size v n xs:=by rw [hs1]; exact ho
 have hmul:(n+m)*es.bytes<=10000000*1000:=Nat.mul_le_mul hn hby
 obtain ⟨v',w',q1,q2,q3,q4⟩:=run_append (P:=P) (w:=w) (ty:=ty) hu hf hB (by omega) ho' (u:=u) (news:=news) (m:=m) (by rw [hs1,Nat.mul_one]; exact hl) h1 hs (by simp only [maxLen]; omega) (by omega)
 rw [hs1] at q2
 have hob:=ownB (own_form ho)
 refine ⟨v',w',q1,q2,⟨q3.os,q3.tape,q3.output,q3.size,fun k hk=>q3.block k (by omega) fun e=>?_⟩,fun k hk hne=>q3.block k hk fun e=>hne (by rw [<-hob]; exact e.symm),q4⟩
 have:=new_blk ho k (by rw [<-hob]; exact e.symm)
 omega
theorem one_lit {T e:TypeId} {te:TE} (hu:P.underlying T=some (.slice e)) (hf:TyFact P e te) (hs1:te.ty.size=1) {v:Value} (hv:v.cells=#[v]):(Instr.buildSlice T 1 #[(0,v)]).run P w=.ok (.slice (some ⟨w.heap.size,0,none⟩) 1 1) (w.alloc (.cells #[v] e)):=by
 obtain ⟨inf,hi,hz,hs,hb⟩:=hf.info
 refine run_buildSlice w T e 1 #[(0,v)] #[v] inf _ hu hi hz (by rw [hs,hs1]; decide) (by rw [hs,hs1]; decide) ?_
 have hzc:(te.ty.wrap (zc te.ty)).cells.size=1:=by rw [wrap_cells (zc_len _) (zc_one _)]; simp [zc_len,hs1]
 rw [hs,hs1]
 have key:∀ f:Nat->Value,((Array.range 1).map f).setIfInBounds 0 v=#[v]:=fun f=>by
  apply Array.ext
  ·simp
  ·intro i h1 h2
   have:i=0:=by simp at h2; omega
   subst this
   simp
 simp [Instr.fill,hv,key]
theorem none_lit {T e:TypeId} {te:TE} (hu:P.underlying T=some (.slice e)) (hf:TyFact P e te):(Instr.buildSlice T 0 #[]).run P w=.ok (.slice (some ⟨w.heap.size,0,none⟩) 0 0) (w.alloc (.cells #[] e)):=by
 obtain ⟨inf,hi,hz,hs,hb⟩:=hf.info
 have hr0:Array.map (fun (_:Nat)=>(default:Value)) (Array.range 0)=#[]:=by apply Array.ext<;>simp
 simp [Instr.buildSlice,run_underlying hu,sizeOf,typeInfo,hi,Instr.fill,newRow,hr0]
theorem refgrp_ok (hE:E.Ok) (hX0:∀ b,X0 b->b<w0.heap.size) (h:Fr w0 X0 Bo N st ρ a w) {r1 r2:Nat} {Tss T Ti:TypeId} {es ei:TE} (hss:E.P.underlying Tss=some (.slice T)) (hts:E.P.underlying T=some (.slice Ti)) (fes:TyFact E.P T es) (fei:TyFact E.P Ti ei) (hes:es.ty.size=1) (heb:es.bytes<=1000) (hei:ei.ty.size=1)
    {ty0 ty1 ty2 ty3 ty4 ty5 ty6 ty7 ty8 ty9 ty10 ty11 ty12 ty13 ty14 ty15:TypeId} {po0 po1 po2 po3 po4 po5 po6 po7 po8 po9 po10 po11 po12 po13 po14 po15:String} {af0 af1 af2 af3 af4 af5 af6 af7 af8 af9 af10 af11 af12 af13 af14 af15:Array Edge}
    {c d n p:Nat} {i:Int} {o:Bool} {ll:List (List Int)} (g3:get? st.sl 3=some (.sli c n)) (g7:get? st.sl 7=some (.dat (.int .i64) (p:Int))) (g5:get? st.sl 5=some (.dat (.int .i64) i))
    (hgc:get? st.ck c=some (.nrow T o d none)) (hgd:get? st.ck d=some (.bag Ti (.int .i64) ll)) (hl:ll.length=n) (hp:p<=n) (hn:n<=1000000) (hN:91<N)
    (hchk:chk [⟨some 82,.move (.tmp 10),ty6,po6,af6,none⟩,⟨some 83,.move (.tmp 5),ty7,po7,af7,none⟩,⟨some 84,.buildSlice T 1 #[(0,.tmp 83)],ty8,po8,af8,none⟩,⟨some 85,.buildSlice Tss 1 #[(0,.tmp 84)],ty9,po9,af9,none⟩,⟨some 86,.call { callee:=.builtin .append,args:=#[.tmp 82,.tmp 85],argTypes:=#[Tss,Tss] },ty10,po10,af10,none⟩,⟨some 87,.move (.tmp 3),ty11,po11,af11,none⟩,⟨some 88,.move (.tmp 7),ty12,po12,af12,none⟩,⟨some 89,.slice Tss (.tmp 87) (some (.tmp 88)) none none,ty13,po13,af13,none⟩,⟨some 90,.call { callee:=.builtin .append,args:=#[.tmp 86,.tmp 89],argTypes:=#[Tss,Tss] },ty14,po14,af14,none⟩,⟨some 3,.assign (.tmp 90),ty15,po15,af15,none⟩] [0,0,2,6,15,0,0,96,255,511] [[(10,none)],[(5,none)],[(83,some 1)],[(84,some 2)],[(82,some 0),(85,some 3)],[(3,none)],[(7,none)],[(87,some 5),(88,some 6)],[(86,some 4),(89,some 7)],[(90,some 8)]] N=true)
    (htl:tailB [⟨some 82,.move (.tmp 10),ty6,po6,af6,none⟩,⟨some 83,.move (.tmp 5),ty7,po7,af7,none⟩,⟨some 84,.buildSlice T 1 #[(0,.tmp 83)],ty8,po8,af8,none⟩,⟨some 85,.buildSlice Tss 1 #[(0,.tmp 84)],ty9,po9,af9,none⟩,⟨some 86,.call { callee:=.builtin .append,args:=#[.tmp 82,.tmp 85],argTypes:=#[Tss,Tss] },ty10,po10,af10,none⟩,⟨some 87,.move (.tmp 3),ty11,po11,af11,none⟩,⟨some 88,.move (.tmp 7),ty12,po12,af12,none⟩,⟨some 89,.slice Tss (.tmp 87) (some (.tmp 88)) none none,ty13,po13,af13,none⟩,⟨some 90,.call { callee:=.builtin .append,args:=#[.tmp 86,.tmp 89],argTypes:=#[Tss,Tss] },ty14,po14,af14,none⟩,⟨some 3,.assign (.tmp 90),ty15,po15,af15,none⟩] [0,0,2,6,15,0,0,96,255,511] 10=true)
    {sl:List (Nat×AV)} (hsl:∀ t x,get? sl t=some x->get? st.sl t=some x/\t<N/\t≠3/\t≠10/\¬(77<=t/\t<=90))
    {k:List It} {Q:Exit->Act->World->Prop} (hQ:∀ ρ' a' w',Fr w0 X0 Bo N ⟨(3,.sli st.nx (n+1))::sl,(st.nx,.nrow T o (st.nx+1) none)::(st.nx+1,.bag Ti (.int .i64) (insL ll p [[i]]))::delL st.ck [c,d],st.nx+2⟩ ρ' a' w'->sem E.P Q k .normal a' w') :
    sem E.P Q (.code (.region r1 #[⟨some 77,.buildSlice Tss 0 #[],ty0,po0,af0,none⟩,⟨some 78,.move (.tmp 3),ty1,po1,af1,none⟩,⟨some 79,.move (.tmp 7),ty2,po2,af2,none⟩,⟨some 80,.slice Tss (.tmp 78) none (some (.tmp 79)) none,ty3,po3,af3,none⟩,⟨some 81,.call { callee:=.builtin .append,args:=#[.tmp 77,.tmp 80],argTypes:=#[Tss,Tss] },ty4,po4,af4,none⟩,⟨some 10,.assign (.tmp 81),ty5,po5,af5,none⟩] false)::.code (.region r2 #[⟨some 82,.move (.tmp 10),ty6,po6,af6,none⟩,⟨some 83,.move (.tmp 5),ty7,po7,af7,none⟩,⟨some 84,.buildSlice T 1 #[(0,.tmp 83)],ty8,po8,af8,none⟩,⟨some 85,.buildSlice Tss 1 #[(0,.tmp 84)],ty9,po9,af9,none⟩,⟨some 86,.call { callee:=.builtin .append,args:=#[.tmp 82,.tmp 85],argTypes:=#[Tss,Tss] },ty10,po10,af10,none⟩,⟨some 87,.move (.tmp 3),ty11,po11,af11,none⟩,⟨some 88,.move (.tmp 7),ty12,po12,af12,none⟩,⟨some 89,.slice Tss (.tmp 87) (some (.tmp 88)) none none,ty13,po13,af13,none⟩,⟨some 90,.call { callee:=.builtin .append,args:=#[.tmp 86,.tmp 89],argTypes:=#[Tss,Tss] },ty14,po14,af14,none⟩,⟨some 3,.assign (.tmp 90),ty15,po15,af15,none⟩] true)::k) .normal a w:=by
 have hw:=h.wd hX0
 have hmc:=get?_mem hgc
 have hmd:=get?_mem hgd
 obtain ⟨vc,us1,c1,c2,c3,c4⟩:=nrow_cells (hw.cs _ hmc)
 obtain ⟨us1',b1,b2,b3,b4⟩:=id (hw.cs _ hmd)
 rw [c2] at b1
 cases b1
 obtain ⟨v0,x1,x2,x3⟩:=h.sl _ _ g3
 rw [c1] at x1
 cases x1
 have hv3:gt a 3=vc:=(List.cons.inj x3).1
 have hv7:gt a 7=.int .i64 (p:Int):=(m_int (h.sl _ _ g7)).1
 have hv5:gt a 5=.int .i64 i:=(m_int (h.sl _ _ g5)).1
 have hin:inR .i64 i:=(m_int (h.sl _ _ g5)).2
 generalize hus:us1.toList=us at c3 c4 b2 b3 b4
 rw [b2,hl] at c3
 rw [hl] at b2
 have hsz:=h.sz
 have q1:=none_lit (w:=w) hss fes
 have bw1:=below_alloc w (.cells #[] T)
 have ho1:=World.ownsRow_lit (e:=T) (size:=1) (base:=w.heap.size) w #[] 0 (Nat.le_refl _) (by simp [maxLen]) (by simp)
 generalize hw1:w.alloc (.cells #[] T)=w1 at q1 bw1 ho1
 generalize hv77:Value.slice (some ⟨w.heap.size,0,none⟩) 0 0=v77 at q1 ho1
 obtain ⟨⟨v80,q80,rd80⟩,⟨v89,q89,rd89⟩⟩:=own_parts hss fes hes c3 hp
 have hoc:∀ u∈us,u.oneCell'=true:=c4
 have l80:(us.take p).length=p:=by rw [List.length_take]; omega
 have l89:(us.drop p).length=n-p:=by rw [List.length_drop]; omega
 obtain ⟨v81,w2,q81,ho81,bw2,bo2,bk81⟩:=hrow_app (w:=w1) (ty:=ty4) hss fes hes heb bw1.size (by simpa using ho1) (n:=0) (u:=v80) (news:=us.take p) (m:=p) l80 (fun u hu=>hoc u (List.mem_of_mem_take hu)) (rd80.src fun b hb=>bw1.block b hb) (by omega)
 rw [Nat.zero_add] at ho81
 have ho81:w2.ownsRow w.heap.size T 1 v81 p (us.take p):=by simpa using ho81
 have bw:Below w.heap.size w w2:=bw1.trans bw2
 have key:∀ a6:Act,a6.defers=[]->a6.tmps.size=N->gt a6 10=v81->gt a6 3=vc->gt a6 5=.int .i64 i->gt a6 7=.int .i64 (p:Int)->(∀ t,t<N->t≠10->¬(77<=t/\t<=90)->gt a6 t=gt a t)->(Code.region r2 #[⟨some 82,.move (.tmp 10),ty6,po6,af6,none⟩,⟨some 83,.move (.tmp 5),ty7,po7,af7,none⟩,⟨some 84,.buildSlice T 1 #[(0,.tmp 83)],ty8,po8,af8,none⟩,⟨some 85,.buildSlice Tss 1 #[(0,.tmp 84)],ty9,po9,af9,none⟩,⟨some 86,.call { callee:=.builtin .append,args:=#[.tmp 82,.tmp 85],argTypes:=#[Tss,Tss] },ty10,po10,af10,none⟩,⟨some 87,.move (.tmp 3),ty11,po11,af11,none⟩,⟨some 88,.move (.tmp 7),ty12,po12,af12,none⟩,⟨some 89,.slice Tss (.tmp 87) (some (.tmp 88)) none none,ty13,po13,af13,none⟩,⟨some 90,.call { callee:=.builtin .append,args:=#[.tmp 86,.tmp 89],argTypes:=#[Tss,Tss] },ty14,po14,af14,none⟩,⟨some 3,.assign (.tmp 90),ty15,po15,af15,none⟩] true).wp E.P (sem E.P Q k) a6 w2:=by
  intro a6 had hsz6 hg10 hg3 hg5 hg7 hgo
  let O:(Nat->Bool)->Prop:=fun L=>(L 3=true->L 2=true)/\(L 4=true->L 3=true)/\(L 8=true->L 4=true)
  let Sg:(Nat->Bool)->(Nat->Value)->World->Prop:=fun L val w' =>
   (L 2=false->w'.ownsRow w.heap.size T 1 v81 p (us.take p)) /\
   (L 2=true->∃ b,val 2=.slice (some ⟨b,0,none⟩) 1 1/\w.heap.size<=b/\w'.heap[b]?=some (.cells #[.int .i64 i] Ti (0,0)) /\
    (L 4=false->w'.ownsRow w.heap.size T 1 v81 p (us.take p)/\blk v81≠some b/\(L 3=true->∃ b3,val 3=.slice (some ⟨b3,0,none⟩) 1 1/\w'.heap[b3]?=some (.cells #[val 2] T (0,0)))) /\
    (L 4=true->L 8=false->w'.ownsRow w.heap.size T 1 (val 4) (p+1) (us.take p++[val 2])/\blk (val 4)≠some b) /\
    (L 8=true->w'.ownsRow w.heap.size T 1 (val 8) (n+1) (us.take p++[val 2]++us.drop p)/\blk (val 8)≠some b))
  let J:(Nat->Bool)->(Nat->Value)->World->Prop:=fun L val w'=>Below w.heap.size w w'/\(L 0=true->val 0=v81)/\(L 1=true->val 1=.int .i64 i)/\(L 5=true->val 5=vc)/\(L 6=true->val 6=.int .i64 (p:Int))/\(L 7=true->val 7=v89)/\(L 9=true->L 8=true/\val 9=val 8)/\O L/\Sg L val w'
  have same:∀ {L L':Nat->Bool} {val val':Nat->Value} {w':World},L' 2=L 2->L' 3=L 3->L' 4=L 4->L' 8=L 8->val' 2=val 2->val' 3=val 3->val' 4=val 4->val' 8=val 8->O L->Sg L val w'->O L'/\Sg L' val' w':=by
   intro L L' val val' w' a2 a3 a4 a8 f2 f3 f4 f8 ho hs
   refine ⟨?_,?_⟩
   ·show (L' 3=true->L' 2=true)/\(L' 4=true->L' 3=true)/\(L' 8=true->L' 4=true)
    rw [a2,a3,a4,a8]; exact ho
   ·dsimp only [Sg] at hs ⊢
    rw [a2,a3,a4,a8,f2,f3,f4,f8]
    exact hs
  have upn:∀ {L:Nat->Bool} {i j:Nat},i≠j->up L j i=L i:=fun {L i j} hij=>by simp [up,hij]
  have upvn:∀ {val:Nat->Value} {i j:Nat} {v:Value},i≠j->upv val j v i=val i:=fun {val i j v} hij=>by simp [upv,hij]
  have upj:∀ {L:Nat->Bool} {j:Nat},up L j j=true:=fun {L j}=>by simp [up]
  have upvj:∀ {val:Nat->Value} {j:Nat} {v:Value},upv val j v j=v:=fun {val j v}=>by simp [upv]
  have pure:∀ {L:Nat->Bool} {val:Nat->Value} {w':World} (j:Nat) (v:Value),J L val w'->j≠2->j≠3->j≠4->j≠8->(j=0->v=v81)->(j=1->v=.int .i64 i)->(j=5->v=vc)->(j=6->v=.int .i64 (p:Int))->(j=7->v=v89)->(j=9->L 8=true/\v=val 8)->J (up L j) (upv val j v) w':=by
   rintro L val w' j v ⟨hb,m0,m1,m5,m6,m7,m9,mo,ms⟩ n2 n3 n4 n8 a0 a1 a5 a6 a7 a9
   have one:∀ (i:Nat) (x:Value),(j=i->v=x)->(L i=true->val i=x)->up L j i=true->upv val j v i=x:=by
    intro i x hx hi hu
    by_cases e:i=j
    ·subst e; rw [upvj]; exact hx rfl
    ·rw [upn e] at hu; rw [upvn e]; exact hi hu
   have s:=same (L':=up L j) (val':=upv val j v) (upn (Ne.symm n2)) (upn (Ne.symm n3)) (upn (Ne.symm n4)) (upn (Ne.symm n8)) (upvn (Ne.symm n2)) (upvn (Ne.symm n3)) (upvn (Ne.symm n4)) (upvn (Ne.symm n8)) mo ms
   refine ⟨hb,one 0 _ a0 m0,one 1 _ a1 m1,one 5 _ a5 m5,one 6 _ a6 m6,one 7 _ a7 m7,fun hu=>?_,s.1,s.2⟩
   rw [upn (Ne.symm n8),upvn (Ne.symm n8)]
   by_cases e:9=j
   ·subst e; rw [upvj]; exact a9 rfl
   ·rw [upn e] at hu; rw [upvn e]; exact m9 hu
  have eff:∀ {L:Nat->Bool} {val:Nat->Value} {w' w'':World} (j:Nat) (v:Value),J L val w'->(j=2∨j=3∨j=4∨j=8)->L 9=false->Below w.heap.size w w''->O (up L j)->Sg (up L j) (upv val j v) w''->J (up L j) (upv val j v) w'':=by
   rintro L val w' w'' j v ⟨hb,m0,m1,m5,m6,m7,m9,mo,ms⟩ hj h9 hb2 ho hs
   have one:∀ (i:Nat) (x:Value),i≠j->(L i=true->val i=x)->up L j i=true->upv val j v i=x:=by
    intro i x e hi hu
    rw [upn e] at hu; rw [upvn e]; exact hi hu
   refine ⟨hb2,one 0 _ (by omega) m0,one 1 _ (by omega) m1,one 5 _ (by omega) m5,one 6 _ (by omega) m6,one 7 _ (by omega) m7,fun hu=>?_,ho,hs⟩
   rw [upn (by omega),h9] at hu
   cases hu
  have hcellrow:∀ {w':World} {b:Nat} {x:Value} {T':TypeId},w'.heap[b]?=some (.cells #[x] T' (0,0))->∀ (j:Nat) (c:Value),[x][j]?=some c->w'.cell? ((⟨b,0,none⟩:Addr).add j)=some c:=by
   intro w' b x T' hh j c hj
   rw [Addr.add_lit,Nat.zero_add]
   cases j with
   | zero=>simp [World.cell?,hh]; simpa using hj
   | succ j=>simp at hj
  have ng:∀ {o:Oper} {a':Act},o.guard=none->∀ {Z:Prop},¬gok [⟨some 82,.move (.tmp 10),ty6,po6,af6,none⟩,⟨some 83,.move (.tmp 5),ty7,po7,af7,none⟩,⟨some 84,.buildSlice T 1 #[(0,.tmp 83)],ty8,po8,af8,none⟩,⟨some 85,.buildSlice Tss 1 #[(0,.tmp 84)],ty9,po9,af9,none⟩,⟨some 86,.call { callee:=.builtin .append,args:=#[.tmp 82,.tmp 85],argTypes:=#[Tss,Tss] },ty10,po10,af10,none⟩,⟨some 87,.move (.tmp 3),ty11,po11,af11,none⟩,⟨some 88,.move (.tmp 7),ty12,po12,af12,none⟩,⟨some 89,.slice Tss (.tmp 87) (some (.tmp 88)) none none,ty13,po13,af13,none⟩,⟨some 90,.call { callee:=.builtin .append,args:=#[.tmp 86,.tmp 89],argTypes:=#[Tss,Tss] },ty14,po14,af14,none⟩,⟨some 3,.assign (.tmp 90),ty15,po15,af15,none⟩].toArray o a'->Z:=fun {o a'} hg {Z} hn=>absurd (by unfold gok; rw [hg]; trivial) hn
  refine regionJ (l:=[⟨some 82,.move (.tmp 10),ty6,po6,af6,none⟩,⟨some 83,.move (.tmp 5),ty7,po7,af7,none⟩,⟨some 84,.buildSlice T 1 #[(0,.tmp 83)],ty8,po8,af8,none⟩,⟨some 85,.buildSlice Tss 1 #[(0,.tmp 84)],ty9,po9,af9,none⟩,⟨some 86,.call { callee:=.builtin .append,args:=#[.tmp 82,.tmp 85],argTypes:=#[Tss,Tss] },ty10,po10,af10,none⟩,⟨some 87,.move (.tmp 3),ty11,po11,af11,none⟩,⟨some 88,.move (.tmp 7),ty12,po12,af12,none⟩,⟨some 89,.slice Tss (.tmp 87) (some (.tmp 88)) none none,ty13,po13,af13,none⟩,⟨some 90,.call { callee:=.builtin .append,args:=#[.tmp 86,.tmp 89],argTypes:=#[Tss,Tss] },ty14,po14,af14,none⟩,⟨some 3,.assign (.tmp 90),ty15,po15,af15,none⟩]) (a0:=a6) (w0:=w2) hE.mx J _ _ 10 hsz6 hchk htl ?_ ?_ ?_
  ·exact ⟨⟨bw.os,bw.tape,bw.output,bw.size,bw.block⟩,(fun h=>by cases h),(fun h=>by cases h),(fun h=>by cases h),(fun h=>by cases h),(fun h=>by cases h),(fun h=>by cases h),⟨(fun h=>by cases h),(fun h=>by cases h),(fun h=>by cases h)⟩,(fun _=>ownsRow_of ho81 fun _ _=>rfl),(fun h=>by cases h)⟩
  ·intro j o hj ho L val a' w' hJ hL hmask hr
   obtain ⟨hb,m0,m1,m5,m6,m7,m9,⟨o1,o2,o3⟩,ms1,ms2⟩:=hJ
   have hJ:J L val w':=⟨hb,m0,m1,m5,m6,m7,m9,⟨o1,o2,o3⟩,ms1,ms2⟩
   have hj10:j=0∨j=1∨j=2∨j=3∨j=4∨j=5∨j=6∨j=7∨j=8∨j=9:=by omega
   have ff:∀ {x:Bool},(x=true->False)->x=false:=fun {x} h=>by
    cases x with
    | false=>rfl
    | true=>exact (h rfl).elim
   rcases hj10 with rfl|rfl|rfl|rfl|rfl|rfl|rfl|rfl|rfl|rfl<;>cases ho
   ·have hg:a'.eval (.tmp 10)=v81:=(hr (10,none) (by simp)).trans hg10
    exact ⟨fun _=>does_val (v:=v81) (w':=w') (by simp [execOp,hg]) (pure 0 v81 hJ (by omega) (by omega) (by omega) (by omega) (fun _=>rfl) (fun h=>by omega) (fun h=>by omega) (fun h=>by omega) (fun h=>by omega) (fun h=>by omega)),ng rfl⟩
   ·have hg:a'.eval (.tmp 5)=.int .i64 i:=(hr (5,none) (by simp)).trans hg5
    exact ⟨fun _=>does_val (v:=.int .i64 i) (w':=w') (by simp [execOp,hg]) (pure 1 _ hJ (by omega) (by omega) (by omega) (by omega) (fun h=>by omega) (fun _=>rfl) (fun h=>by omega) (fun h=>by omega) (fun h=>by omega) (fun h=>by omega)),ng rfl⟩
   ·have hg:a'.eval (.tmp 83)=.int .i64 i:=(hr (83,some 1) (by simp)).trans (m1 (hmask 1 (by decide)))
    have l3:L 3=false:=ff fun h=>by have:=o1 h; rw [hL] at this; cases this
    have l4:L 4=false:=ff fun h=>by have:=o2 h; rw [l3] at this; cases this
    have l8:L 8=false:=ff fun h=>by have:=o3 h; rw [l4] at this; cases this
    have hown:=ms1 hL
    have hq:=one_lit (w:=w') hts fei hei (v:=.int .i64 i) rfl
    have hbl:=below_alloc w' (.cells #[Value.int .i64 i] Ti)
    have hcell:(w'.alloc (.cells #[Value.int .i64 i] Ti)).heap[w'.heap.size]?=some (.cells #[Value.int .i64 i] Ti (0,0)):=heap_alloc_new w' _
    have hlt:∀ b,blk v81=some b->b<w'.heap.size:=fun b e=>by
     rcases hown.2 with ⟨e2,_⟩|⟨g,cap,cur,e2,_,hh,_⟩
     ·rw [e2] at e; cases e
     ·rw [e2] at e; cases e; exact heap_lt hh
    have hown':=ownsRow_of (w':=w'.alloc (.cells #[Value.int .i64 i] Ti)) hown fun b e=>hbl.block b (hlt b e)
    refine ⟨fun _=>does_val (v:=.slice (some ⟨w'.heap.size,0,none⟩) 1 1) (w':=w'.alloc (.cells #[.int .i64 i] Ti)) ?_ (eff 2 _ hJ (.inl rfl) ?_ (hb.trans (hbl.mono hb.size)) ?_ ?_),ng rfl⟩
    ·simp [execOp,hg,hq]
    ·exact ff fun h=>by have:=(m9 h).1; rw [l8] at this; cases this
    ·exact ⟨fun _=>upj,(fun h=>by rw [upn (by omega),l4] at h; cases h),(fun h=>by rw [upn (by omega),l8] at h; cases h)⟩
    ·refine ⟨(fun h=>by rw [upj] at h; cases h),fun _=>⟨w'.heap.size,upvj,hb.size,hcell,fun _=>⟨hown',(fun e=>by have:=hlt _ e; omega),(fun h=>by rw [upn (by omega),l3] at h; cases h)⟩,(fun h=>by rw [upn (by omega),l4] at h; cases h),(fun h=>by rw [upn (by omega),l8] at h; cases h)⟩⟩
   ·have l2:=hmask 2 (by decide)
    have hg:a'.eval (.tmp 84)=val 2:=hr (84,some 2) (by simp)
    have l4:L 4=false:=ff fun h=>by have:=o2 h; rw [hL] at this; cases this
    have l8:L 8=false:=ff fun h=>by have:=o3 h; rw [l4] at this; cases this
    obtain ⟨b,k1,k2,k3,k4,_,_⟩:=ms2 l2
    obtain ⟨hown,k5,_⟩:=k4 l4
    have hq:=one_lit (w:=w') hss fes hes (v:=val 2) (by rw [k1]; rfl)
    have hbl:=below_alloc w' (.cells #[val 2] T)
    have hcell:(w'.alloc (.cells #[val 2] T)).heap[w'.heap.size]?=some (.cells #[val 2] T (0,0)):=heap_alloc_new w' _
    have hlt:∀ b,blk v81=some b->b<w'.heap.size:=fun b e=>by
     rcases hown.2 with ⟨e2,_⟩|⟨g,cap,cur,e2,_,hh,_⟩
     ·rw [e2] at e; cases e
     ·rw [e2] at e; cases e; exact heap_lt hh
    have hown':=ownsRow_of (w':=w'.alloc (.cells #[val 2] T)) hown fun b e=>hbl.block b (hlt b e)
    refine ⟨fun _=>does_val (v:=.slice (some ⟨w'.heap.size,0,none⟩) 1 1) (w':=w'.alloc (.cells #[val 2] T)) ?_ (eff 3 _ hJ (.inr (.inl rfl)) ?_ (hb.trans (hbl.mono hb.size)) ?_ ?_),ng rfl⟩
    ·simp [execOp,hg,hq]
    ·exact ff fun h=>by have:=(m9 h).1; rw [l8] at this; cases this
    ·exact ⟨(fun _=>by rw [upn (by omega)]; exact l2),(fun h=>by rw [upn (by omega),l4] at h; cases h),(fun h=>by rw [upn (by omega),l8] at h; cases h)⟩
    ·refine ⟨(fun h=>by rw [upn (by omega),l2] at h; cases h),fun _=>⟨b,by rw [upvn (by omega)]; exact k1,k2,(hbl.block b (heap_lt k3)).trans k3,fun _=>⟨hown',k5,fun _=>⟨w'.heap.size,upvj,?_⟩⟩,(fun h=>by rw [upn (by omega),l4] at h; cases h),(fun h=>by rw [upn (by omega),l8] at h; cases h)⟩⟩
     rw [upvn (by omega)]
     exact hcell
   ·have l2:=hmask 2 (by decide)
    have l3:=hmask 3 (by decide)
    have hg1:a'.eval (.tmp 82)=v81:=(hr (82,some 0) (by simp)).trans (m0 (hmask 0 (by decide)))
    have hg2:a'.eval (.tmp 85)=val 3:=hr (85,some 3) (by simp)
    have l8:L 8=false:=ff fun h=>by have:=o3 h; rw [hL] at this; cases this
    obtain ⟨b,k1,k2,k3,k4,_,_⟩:=ms2 l2
    obtain ⟨hown,k5,k6⟩:=k4 hL
    obtain ⟨b3,k7,k8⟩:=k6 l3
    have hone:(val 2).oneCell'=true:=by rw [k1]; rfl
    obtain ⟨v',w'',r1,r2,r3,r4,r5⟩:=hrow_app (w:=w') (ty:=ty10) hss fes hes heb hb.size hown (u:=val 3) (news:=[val 2]) (m:=1) rfl (fun c hc=>by rw [List.mem_singleton] at hc; rw [hc]; exact hone) (.inr ⟨_,_,k7,hcellrow k8⟩) (by omega)
    have hbn:blk v'≠some b:=fun e=>by
     rcases r5 b e with e2|e2
     ·exact k5 e2
     ·have:=heap_lt k3; omega
    refine ⟨fun _=>does_val (v:=v') (w':=w'') ?_ (eff 4 _ hJ (.inr (.inr (.inl rfl))) ?_ (hb.trans r3) ?_ ?_),ng rfl⟩
    ·refine append_exec ?_
     rw [hg1,hg2]; exact r1
    ·exact ff fun h=>by have:=(m9 h).1; rw [l8] at this; cases this
    ·exact ⟨(fun _=>by rw [upn (by omega)]; exact l2),(fun _=>by rw [upn (by omega)]; exact l3),(fun h=>by rw [upn (by omega),l8] at h; cases h)⟩
    ·refine ⟨(fun h=>by rw [upn (by omega),l2] at h; cases h),fun _=>⟨b,by rw [upvn (by omega)]; exact k1,k2,(r4 b (heap_lt k3) k5).trans k3,(fun h=>by rw [upj] at h; cases h),fun _ _=>?_,(fun h=>by rw [upn (by omega),l8] at h; cases h)⟩⟩
     rw [upvj,upvn (by omega)]
     exact ⟨r2,hbn⟩
   ·have hg:a'.eval (.tmp 3)=vc:=(hr (3,none) (by simp)).trans hg3
    exact ⟨fun _=>does_val (v:=vc) (w':=w') (by simp [execOp,hg]) (pure 5 _ hJ (by omega) (by omega) (by omega) (by omega) (fun h=>by omega) (fun h=>by omega) (fun _=>rfl) (fun h=>by omega) (fun h=>by omega) (fun h=>by omega)),ng rfl⟩
   ·have hg:a'.eval (.tmp 7)=.int .i64 (p:Int):=(hr (7,none) (by simp)).trans hg7
    exact ⟨fun _=>does_val (v:=.int .i64 (p:Int)) (w':=w') (by simp [execOp,hg]) (pure 6 _ hJ (by omega) (by omega) (by omega) (by omega) (fun h=>by omega) (fun h=>by omega) (fun h=>by omega) (fun _=>rfl) (fun h=>by omega) (fun h=>by omega)),ng rfl⟩
   ·have hg1:a'.eval (.tmp 87)=vc:=(hr (87,some 5) (by simp)).trans (m5 (hmask 5 (by decide)))
    have hg2:a'.eval (.tmp 88)=.int .i64 (p:Int):=(hr (88,some 6) (by simp)).trans (m6 (hmask 6 (by decide)))
    exact ⟨fun _=>does_val (v:=v89) (w':=w') (by simp [execOp,hg1,hg2,q89 w']) (pure 7 _ hJ (by omega) (by omega) (by omega) (by omega) (fun h=>by omega) (fun h=>by omega) (fun h=>by omega) (fun h=>by omega) (fun _=>rfl) (fun h=>by omega)),ng rfl⟩
   ·have l2:=o1 (o2 (hmask 4 (by decide)))
    have l4:=hmask 4 (by decide)
    have hg1:a'.eval (.tmp 86)=val 4:=hr (86,some 4) (by simp)
    have hg2:a'.eval (.tmp 89)=v89:=(hr (89,some 7) (by simp)).trans (m7 (hmask 7 (by decide)))
    obtain ⟨b,k1,k2,k3,_,k4,_⟩:=ms2 l2
    obtain ⟨hown,k5⟩:=k4 l4 hL
    obtain ⟨v',w'',r1,r2,r3,r4,r5⟩:=hrow_app (w:=w') (ty:=ty14) hss fes hes heb hb.size hown (u:=v89) (news:=us.drop p) (m:=n-p) l89 (fun u hu=>hoc u (List.mem_of_mem_drop hu)) (rd89.src hb.block) (by omega)
    rw [show p+1+(n-p)=n+1 by omega] at r2
    have hbn:blk v'≠some b:=fun e=>by
     rcases r5 b e with e2|e2
     ·exact k5 e2
     ·have:=heap_lt k3; omega
    refine ⟨fun _=>does_val (v:=v') (w':=w'') ?_ (eff 8 _ hJ (.inr (.inr (.inr rfl))) ?_ (hb.trans r3) ?_ ?_),ng rfl⟩
    ·refine append_exec ?_
     rw [hg1,hg2]; exact r1
    ·exact ff fun h=>by have:=(m9 h).1; rw [hL] at this; cases this
    ·exact ⟨(fun h=>by rw [upn (by omega)] at h ⊢; exact o1 h),(fun h=>by rw [upn (by omega)] at h ⊢; exact o2 h),(fun _=>by rw [upn (by omega)]; exact l4)⟩
    ·refine ⟨(fun h=>by rw [upn (by omega),l2] at h; cases h),fun _=>⟨b,by rw [upvn (by omega)]; exact k1,k2,(r4 b (heap_lt k3) k5).trans k3,(fun h=>by rw [upn (by omega),l4] at h; cases h),(fun _ h=>by rw [upj] at h; cases h),fun _=>?_⟩⟩
     rw [upvj,upvn (by omega)]
     exact ⟨r2,hbn⟩
   ·have hg:a'.eval (.tmp 90)=val 8:=hr (90,some 8) (by simp)
    exact ⟨fun _=>does_val (v:=val 8) (w':=w') (by simp [execOp,hg]) (pure 9 _ hJ (by omega) (by omega) (by omega) (by omega) (fun h=>by omega) (fun h=>by omega) (fun h=>by omega) (fun h=>by omega) (fun h=>by omega) (fun _=>⟨hmask 8 (by decide),rfl⟩)),ng rfl⟩
  ·intro v w' hJ
   obtain ⟨hb,_,_,_,_,_,m9,_,_,ms2⟩:=hJ
   have t10:∀ i,i<10->decide (i<10)=true:=fun i hi=>decide_eq_true hi
   obtain ⟨b,k1,k2,k3,_,_,k4⟩:=ms2 (t10 2 (by omega))
   obtain ⟨hown,k5⟩:=k4 (t10 8 (by omega))
   have h98:=(m9 (t10 9 (by omega))).2
   generalize v 8=v8 at hown k5 h98
   have hlu:(insL us p [v 2]).length=n+1:=by rw [insL_len,b2]; rfl
   have hll:(insL ll p [[i]]).length=n+1:=by rw [insL_len,hl]; rfl
   have hown:w'.ownsRow w.heap.size T 1 v8 (n+1) (insL us p [v 2]):=hown
   have hold:∀ (j:Nat) (u:Value),us[j]?=some u->∀ b,blk u=some b->inC ρ d b:=fun j u hu b hb=>inC_tup c2 (by rw [hus]; exact hu) hb
   have holdlt:∀ u∈us,∀ b,blk u=some b->b<w.heap.size:=fun u hu b hb=>by
    obtain ⟨j,hj⟩:=List.mem_iff_getElem?.1 hu
    exact (h.bl _ hmd b (hold j u hj b hb)).1
   have hbv:∀ b',blk (v 2)=some b'->b'=b:=fun b' e=>by rw [k1] at e; cases e; rfl
   have hnew:∀ Y,Rw 0 Y w' Ti (.int .i64) (v 2) [i]:=fun Y=>by
    refine ⟨[.int .i64 i],⟨rfl,.inr ⟨b,1,#[.int .i64 i],k1,Nat.zero_le _,k3,Nat.le_refl _,by simp [maxLen],rfl,rfl⟩⟩,(fun u hu=>by rw [List.mem_singleton] at hu; rw [hu]; rfl),fun j x hj=>?_⟩
    cases j with
    | zero=>cases hj; exact ⟨rfl,hin⟩
    | succ j=>simp at hj
   obtain ⟨ρ',f1,f2,f3⟩:=(fr_unfacts h).nmake2 (ds:=[c,d]) (o:=o) (us:=insL us p [v 2]) (ll:=insL ll p [[i]]) (T:=T) (Ti:=Ti) (t:=.int .i64) (v':=v8) ⟨hb.os,hb.tape,hb.output⟩ hb.size hb.block
    (by rw [hlu]; exact ⟨hown.1,hown.2.imp id fun ⟨g,cap,cur,q1,_,q2⟩=>⟨g,cap,cur,q1,Nat.zero_le _,q2⟩⟩)
    (fun u hu=>by
     rcases ins_mem hu with hu|hu
     ·exact hoc u hu
     ·rw [List.mem_singleton] at hu; rw [hu,k1]; rfl)
    (by rw [hlu,hll])
    (fun j u l hu hl2=>by
     rcases ins_at (by omega) hu with ⟨p1,p2⟩|⟨p1,p2,p3⟩|⟨p1,p2⟩<;>rcases ins_at (by omega) hl2 with ⟨r1,r2⟩|⟨r1,r2,r3⟩|⟨r1,r2⟩<;>simp only [List.length_singleton] at*<;> try omega
     ·exact .inl ⟨b3 _ u l p2 r2,fun b' hb'=>⟨_,hmd,by simp,hold _ u p2 b' hb'⟩⟩
     ·have hj:j-p=0:=by omega
      rw [hj] at p3 r3
      cases p3
      cases r3
      exact .inr ⟨hnew,fun b' hb'=>by rw [hbv b' hb']; exact ⟨k2,heap_lt k3⟩⟩
     ·exact .inl ⟨b3 _ u l p2 r2,fun b' hb'=>⟨_,hmd,by simp,hold _ u p2 b' hb'⟩⟩)
    (fun j k u u' hu hu' hne b' hb' hb2=>by
     have lo:∀ {q:Nat} {x:Value},us[q]?=some x->blk x=some b'->b'<w.heap.size:=fun {q x} hq hx=>holdlt x (List.mem_of_getElem? hq) b' hx
     have hi:∀ {q:Nat} {x:Value},[v 2][q]?=some x->blk x=some b'->w.heap.size<=b':=fun {q x} hq hx=>by
      have:=List.mem_of_getElem? hq
      rw [List.mem_singleton] at this
      rw [this] at hx
      rw [hbv b' hx]; exact k2
     rcases ins_at (by omega) hu with ⟨p1,p2⟩|⟨p1,p2,p3⟩|⟨p1,p2⟩<;>rcases ins_at (by omega) hu' with ⟨r1,r2⟩|⟨r1,r2,r3⟩|⟨r1,r2⟩<;>simp only [List.length_singleton] at *
     ·exact b4 _ _ u u' p2 r2 (by omega) b' hb' hb2
     ·have:=lo p2 hb'; have:=hi r3 hb2; omega
     ·exact b4 _ _ u u' p2 r2 (by omega) b' hb' hb2
     ·have:=lo r2 hb2; have:=hi p3 hb'; omega
     ·omega
     ·have:=lo r2 hb2; have:=hi p3 hb'; omega
     ·exact b4 _ _ u u' p2 r2 (by omega) b' hb' hb2
     ·have:=lo p2 hb'; have:=hi r3 hb2; omega
     ·exact b4 _ _ u u' p2 r2 (by omega) b' hb' hb2)
    (new_blk hown)
    (fun u hu b' hb' e=>by
     rcases ins_mem hu with hu|hu
     ·have:=holdlt u hu b' hb'; have:=new_blk hown b' e; omega
     ·rw [List.mem_singleton] at hu
      rw [hu] at hb'
      rw [hbv b' hb'] at e
      exact k5 e)
   have hsli:sliV v8 (n+1):=own_sli hown
   have gp:=fun t (ht:t<N)=>gt_puts a6 v [⟨some 82,.move (.tmp 10),ty6,po6,af6,none⟩,⟨some 83,.move (.tmp 5),ty7,po7,af7,none⟩,⟨some 84,.buildSlice T 1 #[(0,.tmp 83)],ty8,po8,af8,none⟩,⟨some 85,.buildSlice Tss 1 #[(0,.tmp 84)],ty9,po9,af9,none⟩,⟨some 86,.call { callee:=.builtin .append,args:=#[.tmp 82,.tmp 85],argTypes:=#[Tss,Tss] },ty10,po10,af10,none⟩,⟨some 87,.move (.tmp 3),ty11,po11,af11,none⟩,⟨some 88,.move (.tmp 7),ty12,po12,af12,none⟩,⟨some 89,.slice Tss (.tmp 87) (some (.tmp 88)) none none,ty13,po13,af13,none⟩,⟨some 90,.call { callee:=.builtin .append,args:=#[.tmp 86,.tmp 89],argTypes:=#[Tss,Tss] },ty14,po14,af14,none⟩,⟨some 3,.assign (.tmp 90),ty15,po15,af15,none⟩] t (by rw [hsz6]; exact ht) 10 (Nat.le_refl _)
   have hlwn:∀ t,t≠3->¬(77<=t/\t<=90)->lw (([⟨some 82,.move (.tmp 10),ty6,po6,af6,none⟩,⟨some 83,.move (.tmp 5),ty7,po7,af7,none⟩,⟨some 84,.buildSlice T 1 #[(0,.tmp 83)],ty8,po8,af8,none⟩,⟨some 85,.buildSlice Tss 1 #[(0,.tmp 84)],ty9,po9,af9,none⟩,⟨some 86,.call { callee:=.builtin .append,args:=#[.tmp 82,.tmp 85],argTypes:=#[Tss,Tss] },ty10,po10,af10,none⟩,⟨some 87,.move (.tmp 3),ty11,po11,af11,none⟩,⟨some 88,.move (.tmp 7),ty12,po12,af12,none⟩,⟨some 89,.slice Tss (.tmp 87) (some (.tmp 88)) none none,ty13,po13,af13,none⟩,⟨some 90,.call { callee:=.builtin .append,args:=#[.tmp 86,.tmp 89],argTypes:=#[Tss,Tss] },ty14,po14,af14,none⟩,⟨some 3,.assign (.tmp 90),ty15,po15,af15,none⟩]:List Oper).map (·.dst)) (fun _=>true) t 10=none:=by
    intro t h3 h9
    cases hq:lw (([⟨some 82,.move (.tmp 10),ty6,po6,af6,none⟩,⟨some 83,.move (.tmp 5),ty7,po7,af7,none⟩,⟨some 84,.buildSlice T 1 #[(0,.tmp 83)],ty8,po8,af8,none⟩,⟨some 85,.buildSlice Tss 1 #[(0,.tmp 84)],ty9,po9,af9,none⟩,⟨some 86,.call { callee:=.builtin .append,args:=#[.tmp 82,.tmp 85],argTypes:=#[Tss,Tss] },ty10,po10,af10,none⟩,⟨some 87,.move (.tmp 3),ty11,po11,af11,none⟩,⟨some 88,.move (.tmp 7),ty12,po12,af12,none⟩,⟨some 89,.slice Tss (.tmp 87) (some (.tmp 88)) none none,ty13,po13,af13,none⟩,⟨some 90,.call { callee:=.builtin .append,args:=#[.tmp 86,.tmp 89],argTypes:=#[Tss,Tss] },ty14,po14,af14,none⟩,⟨some 3,.assign (.tmp 90),ty15,po15,af15,none⟩]:List Oper).map (·.dst)) (fun _=>true) t 10 with
    | none=>rfl
    | some j =>
     exfalso
     obtain ⟨j1,_,j2,_⟩:=lw_some hq
     have hj10:j=0∨j=1∨j=2∨j=3∨j=4∨j=5∨j=6∨j=7∨j=8∨j=9:=by omega
     rcases hj10 with rfl|rfl|rfl|rfl|rfl|rfl|rfl|rfl|rfl|rfl<;>(cases j2; first|exact h3 rfl|exact h9 (by decide))
   refine hQ ρ' _ w' ⟨by rw [puts_defers]; exact had,by rw [puts_size]; exact hsz6,f1.kp,f1.nx,f1.nd,f1.kn,f1.bl,f1.dj,f1.cs,fun t x hx=>?_,f1.pn⟩
   rcases Nat.decEq 3 t with e|e
   ·have hb2:Nat.beq 3 t=false:=by
      cases hq:Nat.beq 3 t with
      | false=>rfl
      | true=>exact absurd (Nat.eq_of_beq_eq_true hq) e
    simp only [get?,hb2] at hx
    obtain ⟨y1,y2,y3,y4,y5⟩:=hsl t x hx
    have hgt:gt (puts a6 ([⟨some 82,.move (.tmp 10),ty6,po6,af6,none⟩,⟨some 83,.move (.tmp 5),ty7,po7,af7,none⟩,⟨some 84,.buildSlice T 1 #[(0,.tmp 83)],ty8,po8,af8,none⟩,⟨some 85,.buildSlice Tss 1 #[(0,.tmp 84)],ty9,po9,af9,none⟩,⟨some 86,.call { callee:=.builtin .append,args:=#[.tmp 82,.tmp 85],argTypes:=#[Tss,Tss] },ty10,po10,af10,none⟩,⟨some 87,.move (.tmp 3),ty11,po11,af11,none⟩,⟨some 88,.move (.tmp 7),ty12,po12,af12,none⟩,⟨some 89,.slice Tss (.tmp 87) (some (.tmp 88)) none none,ty13,po13,af13,none⟩,⟨some 90,.call { callee:=.builtin .append,args:=#[.tmp 86,.tmp 89],argTypes:=#[Tss,Tss] },ty14,po14,af14,none⟩,⟨some 3,.assign (.tmp 90),ty15,po15,af15,none⟩].take 10) v 0) t=gt a t:=by
     rw [gp t y2,hlwn t y3 y5]
     exact hgo t y2 y4 y5
    rw [hgt]
    exact f2 (h.sl t x y1)
   ·subst e
    simp only [get?,Nat.beq_refl] at hx
    cases hx
    have hgt:gt (puts a6 ([⟨some 82,.move (.tmp 10),ty6,po6,af6,none⟩,⟨some 83,.move (.tmp 5),ty7,po7,af7,none⟩,⟨some 84,.buildSlice T 1 #[(0,.tmp 83)],ty8,po8,af8,none⟩,⟨some 85,.buildSlice Tss 1 #[(0,.tmp 84)],ty9,po9,af9,none⟩,⟨some 86,.call { callee:=.builtin .append,args:=#[.tmp 82,.tmp 85],argTypes:=#[Tss,Tss] },ty10,po10,af10,none⟩,⟨some 87,.move (.tmp 3),ty11,po11,af11,none⟩,⟨some 88,.move (.tmp 7),ty12,po12,af12,none⟩,⟨some 89,.slice Tss (.tmp 87) (some (.tmp 88)) none none,ty13,po13,af13,none⟩,⟨some 90,.call { callee:=.builtin .append,args:=#[.tmp 86,.tmp 89],argTypes:=#[Tss,Tss] },ty14,po14,af14,none⟩,⟨some 3,.assign (.tmp 90),ty15,po15,af15,none⟩].take 10) v 0) 3=v8:=by
     rw [gp 3 (by omega)]
     exact h98
    rw [hgt]
    exact ⟨v8,f3,hsli,rfl⟩
 refine wp_region_list ?_
 refine wl_value (v:=v77) (w':=w1) rfl (by simp [execOp,q1]) ?_
 refine wl_value (v:=vc) (w':=w1) rfl ?_ ?_
 ·have:(a.put (some 77) v77).eval (.tmp 3)=vc:=by show gt _ 3=_; rw [gt_put_ne (by decide),hv3]
  simp [execOp,this]
 refine wl_value (v:=.int .i64 (p:Int)) (w':=w1) rfl ?_ ?_
 ·have:((a.put (some 77) v77).put (some 78) vc).eval (.tmp 7)=.int .i64 (p:Int):=by show gt _ 7=_; rw [gt_put_ne (by decide),gt_put_ne (by decide),hv7]
  simp [execOp,this]
 refine wl_value (v:=v80) (w':=w1) rfl ?_ ?_
 ·have e1:(((a.put (some 77) v77).put (some 78) vc).put (some 79) (.int .i64 (p:Int))).eval (.tmp 78)=vc:=by show gt _ 78=_; rw [gt_put_ne (by decide),gt_put_self (by rw [size_put]; omega)]
  have e2:(((a.put (some 77) v77).put (some 78) vc).put (some 79) (.int .i64 (p:Int))).eval (.tmp 79)=.int .i64 (p:Int):=by show gt _ 79=_; rw [gt_put_self (by rw [size_put,size_put]; omega)]
  simp [execOp,e1,e2,q80 w1]
 refine wl_value (v:=v81) (w':=w2) rfl ?_ ?_
 ·refine append_exec ?_
  have e1:((((a.put (some 77) v77).put (some 78) vc).put (some 79) (.int .i64 (p:Int))).put (some 80) v80).eval (.tmp 77)=v77:=by show gt _ 77=_; rw [gt_put_ne (by decide),gt_put_ne (by decide),gt_put_ne (by decide),gt_put_self (by omega)]
  have e2:((((a.put (some 77) v77).put (some 78) vc).put (some 79) (.int .i64 (p:Int))).put (some 80) v80).eval (.tmp 80)=v80:=by show gt _ 80=_; rw [gt_put_self (by rw [size_put,size_put,size_put]; omega)]
  rw [e1,e2]
  exact q81
 refine wl_value (v:=v81) (w':=w2) rfl ?_ ?_
 ·have e1:(((((a.put (some 77) v77).put (some 78) vc).put (some 79) (.int .i64 (p:Int))).put (some 80) v80).put (some 81) v81).eval (.tmp 81)=v81:=by show gt _ 81=_; rw [gt_put_self (by rw [size_put,size_put,size_put,size_put]; omega)]
  simp [execOp,e1]
 refine wpList_nil ?_
 refine key _ ?_ ?_ ?_ ?_ ?_ ?_ ?_
 ·simp only [defers_put]; exact h.dn
 ·simp only [size_put]; exact hsz
 ·rw [gt_put_self (by simp only [size_put]; omega)]
 ·simp only [gt_put_ne (show (some 10:Option Nat)≠some 3 by decide),gt_put_ne (show (some 77:Option Nat)≠some 3 by decide),gt_put_ne (show (some 78:Option Nat)≠some 3 by decide),gt_put_ne (show (some 79:Option Nat)≠some 3 by decide),gt_put_ne (show (some 80:Option Nat)≠some 3 by decide),gt_put_ne (show (some 81:Option Nat)≠some 3 by decide)]
  exact hv3
 ·simp only [gt_put_ne (show (some 10:Option Nat)≠some 5 by decide),gt_put_ne (show (some 77:Option Nat)≠some 5 by decide),gt_put_ne (show (some 78:Option Nat)≠some 5 by decide),gt_put_ne (show (some 79:Option Nat)≠some 5 by decide),gt_put_ne (show (some 80:Option Nat)≠some 5 by decide),gt_put_ne (show (some 81:Option Nat)≠some 5 by decide)]
  exact hv5
 ·simp only [gt_put_ne (show (some 10:Option Nat)≠some 7 by decide),gt_put_ne (show (some 77:Option Nat)≠some 7 by decide),gt_put_ne (show (some 78:Option Nat)≠some 7 by decide),gt_put_ne (show (some 79:Option Nat)≠some 7 by decide),gt_put_ne (show (some 80:Option Nat)≠some 7 by decide),gt_put_ne (show (some 81:Option Nat)≠some 7 by decide)]
  exact hv7
 ·intro t ht h1 h2
  have hx:∀ j,(j=10∨(77<=j/\j<=81))->(some j:Option Nat)≠some t:=fun j hj e=>by cases e; omega
  rw [gt_put_ne (hx 10 (.inl rfl)),gt_put_ne (hx 81 (by omega)),gt_put_ne (hx 80 (by omega)),gt_put_ne (hx 79 (by omega)),gt_put_ne (hx 78 (by omega)),gt_put_ne (hx 77 (by omega))]
theorem refgrp_H {S:Sx} {H:List It->St->Prop} (hh:HandOk S H) {k:List It} {st:St} {r1 r2:Nat} {Tss T Ti:TypeId} {es ei:TE} (hss:S.E.P.underlying Tss=some (.slice T)) (hts:S.E.P.underlying T=some (.slice Ti)) (fes:TyFact S.E.P T es) (fei:TyFact S.E.P Ti ei) (hes:es.ty.size=1) (heb:es.bytes<=1000) (hei:ei.ty.size=1)
    {ty0 ty1 ty2 ty3 ty4 ty5 ty6 ty7 ty8 ty9 ty10 ty11 ty12 ty13 ty14 ty15:TypeId} {po0 po1 po2 po3 po4 po5 po6 po7 po8 po9 po10 po11 po12 po13 po14 po15:String} {af0 af1 af2 af3 af4 af5 af6 af7 af8 af9 af10 af11 af12 af13 af14 af15:Array Edge}
    {c d n p:Nat} {i:Int} {o:Bool} {ll:List (List Int)} (g3:get? st.sl 3=some (.sli c n)) (g7:get? st.sl 7=some (.dat (.int .i64) (p:Int))) (g5:get? st.sl 5=some (.dat (.int .i64) i))
    (hgc:get? st.ck c=some (.nrow T o d none)) (hgd:get? st.ck d=some (.bag Ti (.int .i64) ll)) (hN:91<S.N)
    (hchk:chk [⟨some 82,.move (.tmp 10),ty6,po6,af6,none⟩,⟨some 83,.move (.tmp 5),ty7,po7,af7,none⟩,⟨some 84,.buildSlice T 1 #[(0,.tmp 83)],ty8,po8,af8,none⟩,⟨some 85,.buildSlice Tss 1 #[(0,.tmp 84)],ty9,po9,af9,none⟩,⟨some 86,.call { callee:=.builtin .append,args:=#[.tmp 82,.tmp 85],argTypes:=#[Tss,Tss] },ty10,po10,af10,none⟩,⟨some 87,.move (.tmp 3),ty11,po11,af11,none⟩,⟨some 88,.move (.tmp 7),ty12,po12,af12,none⟩,⟨some 89,.slice Tss (.tmp 87) (some (.tmp 88)) none none,ty13,po13,af13,none⟩,⟨some 90,.call { callee:=.builtin .append,args:=#[.tmp 86,.tmp 89],argTypes:=#[Tss,Tss] },ty14,po14,af14,none⟩,⟨some 3,.assign (.tmp 90),ty15,po15,af15,none⟩] [0,0,2,6,15,0,0,96,255,511] [[(10,none)],[(5,none)],[(83,some 1)],[(84,some 2)],[(82,some 0),(85,some 3)],[(3,none)],[(7,none)],[(87,some 5),(88,some 6)],[(86,some 4),(89,some 7)],[(90,some 8)]] S.N=true)
    (htl:tailB [⟨some 82,.move (.tmp 10),ty6,po6,af6,none⟩,⟨some 83,.move (.tmp 5),ty7,po7,af7,none⟩,⟨some 84,.buildSlice T 1 #[(0,.tmp 83)],ty8,po8,af8,none⟩,⟨some 85,.buildSlice Tss 1 #[(0,.tmp 84)],ty9,po9,af9,none⟩,⟨some 86,.call { callee:=.builtin .append,args:=#[.tmp 82,.tmp 85],argTypes:=#[Tss,Tss] },ty10,po10,af10,none⟩,⟨some 87,.move (.tmp 3),ty11,po11,af11,none⟩,⟨some 88,.move (.tmp 7),ty12,po12,af12,none⟩,⟨some 89,.slice Tss (.tmp 87) (some (.tmp 88)) none none,ty13,po13,af13,none⟩,⟨some 90,.call { callee:=.builtin .append,args:=#[.tmp 86,.tmp 89],argTypes:=#[Tss,Tss] },ty14,po14,af14,none⟩,⟨some 3,.assign (.tmp 90),ty15,po15,af15,none⟩] [0,0,2,6,15,0,0,96,255,511] 10=true)
    {sl:List (Nat×AV)} (hsl:∀ t x,get? sl t=some x->get? st.sl t=some x/\t<S.N/\t≠3/\t≠10/\¬(77<=t/\t<=90)) (hl:ll.length=n) (hp:p<=n) (hn:n<=1000000)
    (hk:H k ⟨(3,.sli st.nx (n+1))::sl,(st.nx,.nrow T o (st.nx+1) none)::(st.nx+1,.bag Ti (.int .i64) (insL ll p [[i]]))::delL st.ck [c,d],st.nx+2⟩) :
    H (.code (.region r1 #[⟨some 77,.buildSlice Tss 0 #[],ty0,po0,af0,none⟩,⟨some 78,.move (.tmp 3),ty1,po1,af1,none⟩,⟨some 79,.move (.tmp 7),ty2,po2,af2,none⟩,⟨some 80,.slice Tss (.tmp 78) none (some (.tmp 79)) none,ty3,po3,af3,none⟩,⟨some 81,.call { callee:=.builtin .append,args:=#[.tmp 77,.tmp 80],argTypes:=#[Tss,Tss] },ty4,po4,af4,none⟩,⟨some 10,.assign (.tmp 81),ty5,po5,af5,none⟩] false)::.code (.region r2 #[⟨some 82,.move (.tmp 10),ty6,po6,af6,none⟩,⟨some 83,.move (.tmp 5),ty7,po7,af7,none⟩,⟨some 84,.buildSlice T 1 #[(0,.tmp 83)],ty8,po8,af8,none⟩,⟨some 85,.buildSlice Tss 1 #[(0,.tmp 84)],ty9,po9,af9,none⟩,⟨some 86,.call { callee:=.builtin .append,args:=#[.tmp 82,.tmp 85],argTypes:=#[Tss,Tss] },ty10,po10,af10,none⟩,⟨some 87,.move (.tmp 3),ty11,po11,af11,none⟩,⟨some 88,.move (.tmp 7),ty12,po12,af12,none⟩,⟨some 89,.slice Tss (.tmp 87) (some (.tmp 88)) none none,ty13,po13,af13,none⟩,⟨some 90,.call { callee:=.builtin .append,args:=#[.tmp 86,.tmp 89],argTypes:=#[Tss,Tss] },ty14,po14,af14,none⟩,⟨some 3,.assign (.tmp 90),ty15,po15,af15,none⟩] true)::k) st:=by
 obtain ⟨w0,X0,Bo,Q,hE,hX0,hiff⟩:=hh
 rw [hiff]
 intro hok ρ a w hfr
 have hok':okK S.an S.N k=true:=by
  have h:(okC S.an S.N (.region r1 #[⟨some 77,.buildSlice Tss 0 #[],ty0,po0,af0,none⟩,⟨some 78,.move (.tmp 3),ty1,po1,af1,none⟩,⟨some 79,.move (.tmp 7),ty2,po2,af2,none⟩,⟨some 80,.slice Tss (.tmp 78) none (some (.tmp 79)) none,ty3,po3,af3,none⟩,⟨some 81,.call { callee:=.builtin .append,args:=#[.tmp 77,.tmp 80],argTypes:=#[Tss,Tss] },ty4,po4,af4,none⟩,⟨some 10,.assign (.tmp 81),ty5,po5,af5,none⟩] false)&&(okC S.an S.N (.region r2 #[⟨some 82,.move (.tmp 10),ty6,po6,af6,none⟩,⟨some 83,.move (.tmp 5),ty7,po7,af7,none⟩,⟨some 84,.buildSlice T 1 #[(0,.tmp 83)],ty8,po8,af8,none⟩,⟨some 85,.buildSlice Tss 1 #[(0,.tmp 84)],ty9,po9,af9,none⟩,⟨some 86,.call { callee:=.builtin .append,args:=#[.tmp 82,.tmp 85],argTypes:=#[Tss,Tss] },ty10,po10,af10,none⟩,⟨some 87,.move (.tmp 3),ty11,po11,af11,none⟩,⟨some 88,.move (.tmp 7),ty12,po12,af12,none⟩,⟨some 89,.slice Tss (.tmp 87) (some (.tmp 88)) none none,ty13,po13,af13,none⟩,⟨some 90,.call { callee:=.builtin .append,args:=#[.tmp 86,.tmp 89],argTypes:=#[Tss,Tss] },ty14,po14,af14,none⟩,⟨some 3,.assign (.tmp 90),ty15,po15,af15,none⟩] true)&&okK S.an S.N k))=true:=hok
  rw [Bool.and_eq_true,Bool.and_eq_true] at h
  exact h.2.2
 exact refgrp_ok hE hX0 hfr hss hts fes fei hes heb hei g3 g7 g5 hgc hgd hl hp hn hN hchk htl hsl fun ρ' a' w' h3=>(hiff _ _).1 hk hok' ρ' a' w' h3
end
end Go.Proofs.YtdobkkhncfifeacGreat.Gx
