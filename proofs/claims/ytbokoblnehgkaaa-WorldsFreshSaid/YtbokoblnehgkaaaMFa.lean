/-
  MFa: HK FN WF in one text.
-/
import Derived.Test.YtbokoblnehgkaaaMGc
import Derived.Great.BuildSlice
import Derived.Great.FillDense
import Derived.Test.YtbokoblnehgkaaaMWb
namespace Go.Proofs.Ytbokoblnehgkaaa.Gx
open Go Go.RowKit Tw
set_option linter.unusedVariables false
set_option linter.unusedSimpArgs false
set_option maxHeartbeats 4000000
set_option maxRecDepth 20000
section
variable {E:Env} {w0 w1 w2:World} {X0 X1:Nat->Prop} {Bo:List Value} {N:Nat} {st st':St} {ρ:List Value} {a:Act} {w w':World} {Q:Exit->Act->World->Prop} {P:Program} {ps:List Prop}
theorem pre_ok (hE:E.Ok) (hX0:∀ b,X0 b->b<w0.heap.size) {ops:Array Oper} {ds:List (Option Nat)} (hds:∀ g:Nat,nthO ds g=(ops[g]?).map Oper.dst) {ann:List (Nat×An)} {r:List Oper} :
    ∀ {l:List Oper} {st st':St} {ρ:List Value} {a:Act} {w:World} {ps0 ps:List Prop},Fr w0 X0 Bo N st ρ a w->evOps E ann ds l st ps0=some (st',ps)->AllP ps->(∀ o∈l,okOper N o=true) ->
     (∀ ρ' a' w',Fr w0 X0 Bo N st' ρ' a' w'->wpList E.P ops Q r a' w')->wpList E.P ops Q (l++r) a w
 | [],st,st',ρ,a,w,ps0,ps,h,he,hp,hok,hQ=>by cases he; exact hQ _ _ _ h
 | o::l,st,st',ρ,a,w,ps0,ps,h,he,hp,hok,hQ=>by
  simp only [evOps] at he
  split at he
  ·rename_i st1 qs e
   obtain ⟨k,hk⟩:=evOps_pre he
   have hq:AllP qs:=by rw [hk] at hp; exact hp.app.1.app.2
   refine wpList_step fun K hK=>?_
   exact evOp_ok hE h hX0 hds (hok o List.mem_cons_self) e hq fun ρ' a' w' h'=>hK _ _ (pre_ok hE hX0 hds h' he hp (fun o ho=>hok o (List.mem_cons_of_mem _ ho)) hQ)
  ·cases he
def evL (E:Env) (an:List (Nat×An)) (ds:List (Option Nat)):List Oper->St->List Prop->Option (St×List Prop)
 | [],st,ps=>some (st,ps)
 | o::l,st,ps=>match ev1 E st.sl st.ck ds o (anO an o) with
  | some (r,qs)=>evL E an ds l ⟨put st.sl o.dst r,st.ck,st.nx⟩ (ps++qs)
  | none=>none
theorem evL_pre {ann:List (Nat×An)} {ds:List (Option Nat)}:∀ {l:List Oper} {st st':St} {ps0 ps:List Prop},evL E ann ds l st ps0=some (st',ps)->∃ k,ps=ps0++k
 | [],st,st',ps0,ps,h=>by cases h; exact ⟨[],by simp⟩
 | o::l,st,st',ps0,ps,h=>by
  simp only [evL] at h
  split at h
  ·rename_i r qs e
   obtain ⟨k,hk⟩:=evL_pre h
   exact ⟨qs++k,by rw [hk,List.append_assoc]⟩
  ·cases h
theorem preL_ok (hE:E.Ok) (hX0:∀ b,X0 b->b<w0.heap.size) {ops:Array Oper} {ds:List (Option Nat)} (hds:∀ g:Nat,nthO ds g=(ops[g]?).map Oper.dst) {ann:List (Nat×An)} {r:List Oper} :
    ∀ {l:List Oper} {st st':St} {a:Act} {w:World} {ps0 ps:List Prop},Fr w0 X0 Bo N st ρ a w->evL E ann ds l st ps0=some (st',ps)->AllP ps->(∀ o∈l,okOper N o=true) ->
     (∀ a' w',Fr w0 X0 Bo N st' ρ a' w'->Below w.heap.size w w'->wpList E.P ops Q r a' w')->wpList E.P ops Q (l++r) a w
 | [],st,st',a,w,ps0,ps,h,he,hp,hok,hQ=>by cases he; exact hQ _ _ h (Below.refl _ _)
 | o::l,st,st',a,w,ps0,ps,h,he,hp,hok,hQ=>by
  simp only [evL] at he
  split at he
  ·rename_i r' qs e
   obtain ⟨k,hk⟩:=evL_pre he
   have hq:AllP qs:=by rw [hk] at hp; exact hp.app.1.app.2
   refine wpList_step fun K hK=>?_
   have hoo:=hok o List.mem_cons_self
   obtain ⟨h1,h2⟩:=ev1_ok (a:=a) hE (h.wd hX0) hds (okOper_o hoo) (fun t _ x hx=>h.sl t x hx) (fun g w' _ t _ x hx=>h.sl t x hx) e hq
   by_cases hg:gok ops o a
   ·rw [if_pos (wanted_iff.2 hg)]
    exact (h1 hg).wp fun v w' ⟨q1,q2⟩=>hK _ _ (preL_ok hE hX0 hds (h.pure hX0 q2 (okOper_d hoo) q1) he hp (fun o ho=>hok o (List.mem_cons_of_mem _ ho)) fun a' w'' h' hb=>hQ _ _ h' (q2.trans (hb.mono q2.size)))
   ·rw [if_neg (fun e=>hg (wanted_iff.1 e))]
    exact hK _ _ (preL_ok hE hX0 hds (h.pure hX0 (Below.refl _ _) (okOper_d hoo) (h2 hg)) he hp (fun o ho=>hok o (List.mem_cons_of_mem _ ho)) hQ)
  ·cases he
theorem region_pre (hE:E.Ok) (hX0:∀ b,X0 b->b<w0.heap.size) {id:Nat} {ops:Array Oper} {ann:List (Nat×An)} {pre post:List Oper} (hl:ops.toList=pre++post) (h:Fr w0 X0 Bo N st ρ a w) {k:List It}
    (he:evOps E ann (dsts ops.toList) pre st []=some (st',ps)) (hp:AllP ps) (hok:pre.all (okOper N)=true) (hQ:∀ ρ' a' w',Fr w0 X0 Bo N st' ρ' a' w'->wpList E.P ops (sem E.P Q k) post a' w') :
    sem E.P Q (.code (.region id ops false)::k) .normal a w:=by
 refine wp_region_list ?_
 have hds:∀ g:Nat,nthO (dsts ops.toList) g=(ops[g]?).map Oper.dst:=fun g=>by have:=dsts_ok ops.toList g; simpa using this
 have:=pre_ok hE hX0 (ops:=ops) (r:=post) (Q:=sem E.P Q k) hds h he hp (fun o ho=>List.all_eq_true.1 hok o ho) hQ
 rwa [<-hl] at this
theorem Fr.base (h:Fr w0 X0 Bo N st ρ a w) (hX0:∀ b,X0 b->b<w0.heap.size) (hb:Below w.heap.size w w2) (hX:∀ b,X1 b->X0 b∨w.heap.size<=b):Fr w2 X1 (mkB ρ st.ck) N st ρ a w2:=by
 have hXX:∀ b,XX X1 ρ st.ck b->XX X0 ρ st.ck b∨w.heap.size<=b:=by
  rintro b (hb|hb)
  ·rcases hX b hb with h'|h'
   ·exact .inl (.inl h')
   ·exact .inr h'
  ·exact .inl (.inr hb)
 refine ⟨h.dn,h.sz,Kept.refl w2,h.nx,h.nd,h.kn,fun x hx b hc=>⟨Nat.lt_of_lt_of_le (h.bl x hx b hc).1 hb.size,.inr (mk_mem hx hc)⟩,h.dj,fun x hx=>?_,fun t x hx=>?_,⟨fun b hc=>?_,?_,fun x hx T l e hl=>(mk_in hx).symm⟩⟩
 ·exact cm_tr (h.cs x hx) hXX (Ev.of_below hb) fun b e=>hb.block b (h.bl x hx b e).1
 ·exact m_st (Ev.of_below hb) (m_anti hXX (h.sl t x hx))
 ·obtain ⟨x,hx,e⟩:=mk_blk hc
  have hl:=h.bl x hx b e
  refine ⟨Nat.lt_of_lt_of_le hl.1 hb.size,fun h1=>?_⟩
  rcases hX b h1 with h'|h'
  ·rcases hl.2 with h3|h3
   ·exact absurd (hX0 b h') (by omega)
   ·exact (h.pn.bo b h3).2 h'
  ·omega
 ·rw [mk_len]; exact Nat.le_of_eq h.nx
theorem Kept.mkb (h:Fr w0 X0 [] N st ρ a w) (hb:Below w.heap.size w w1) (h2:Kept (mkB ρ st.ck) w1 w2):Kept [] w0 w2:=by
 have h1:=h.kp.below hb
 refine ⟨h2.os.trans h1.os,h2.tape.trans h1.tape,h2.output.trans h1.output,Nat.le_trans h1.size h2.size,fun k hk hn=>?_⟩
 rw [h2.block k (Nat.lt_of_lt_of_le hk h1.size) fun hc=>?_]
 ·exact h1.block k hk hn
 ·obtain ⟨x,hx,e⟩:=mk_blk hc
  rcases (h.bl x hx k e).2 with h3|h3
  ·omega
  ·exact inB_nil h3
theorem run_h {S:Sx} (hnb:S.nb=Bo.length) (hE:S.E.Ok) (hX0:∀ b,X0 b->b<w0.heap.size) (hfin:∀ st ρ a w,finP S st->Fr w0 X0 Bo S.N st ρ a w->Q .ret a w/\Q .normal a w) {k:List It} {st:St}
    (h:∀ H,HOk S H->(∀ k st,(okK S.an S.N k=true->∀ ρ a w,Fr w0 X0 Bo S.N st ρ a w->sem S.E.P Q k .normal a w)->H k st)->H k st):okK S.an S.N k=true->∀ ρ a w,Fr w0 X0 Bo S.N st ρ a w->sem S.E.P Q k .normal a w :=
 h (Hs S.an S.E w0 X0 Bo S.N Q) (hs_ok hnb hE hX0 hfin) fun _ _ h=>h
theorem mkB_ge (h:Fr w1 X1 Bo N st ρ a w) (hw:w0.heap.size<=w1.heap.size) (hB:∀ k,inB Bo k->w0.heap.size<=k):∀ k,inB (mkB ρ st.ck) k->w0.heap.size<=k:=by
 intro k hk
 obtain ⟨x,hx,e⟩:=mk_blk hk
 rcases (h.bl x hx k e).2 with h4|h4
 ·exact Nat.le_trans hw h4
 ·exact hB k h4
end
end Go.Proofs.Ytbokoblnehgkaaa.Gx
namespace Go.Proofs.Ytbokoblnehgkaaa.Gx
open Go Go.RowKit Tw
set_option linter.unusedVariables false
set_option linter.unusedSimpArgs false
set_option maxHeartbeats 4000000
set_option maxRecDepth 20000
section
variable {E:Env} {w0 w u:World} {X X0 X1:Nat->Prop} {Bo:List Value} {N:Nat} {st st':St} {ρ:List Value} {a:Act} {w':World} {Q:Exit->Act->World->Prop} {P:Program} {T:TypeId} {t:Ty} {v:Value} {l:List t.den} {ck:List (Nat×CT)} {sl:List (Nat×AV)} {n:Nat}
theorem nil_inC {b:Nat}:∀ {c:Nat},¬inC [Value.slice none 0 0] c b
 | 0,h=>by
  have h:inV (Value.slice none 0 0) b:=h
  have:=own_inV (World.ownsRow_nil default 0 0 1) h
  cases this
 | c+1,h=>inC_none (by simp) h
theorem nil_inB {b:Nat}:¬inB [Value.slice none 0 0] b:=fun ⟨c,h⟩=>nil_inC h
theorem fr_d (hd:a.defers=[]) (hs:a.tmps.size=N) (hsl:∀ t x,get? sl t=some x->m [] X1 w x [gt a t]):Fr w X1 [.slice none 0 0] N ⟨sl,[],1⟩ [.slice none 0 0] a w:=by
 have hXX:∀ b,XX X1 [.slice none 0 0] [] b->X1 b:=by
  rintro b (hb|⟨x,hx,_⟩)
  ·exact hb
  ·cases hx
 exact ⟨hd,hs,Kept.refl w,rfl,List.nodup_nil,(fun x hx=>by cases hx),(fun x hx=>by cases hx),(fun x hx=>by cases hx),(fun x hx=>by cases hx),(fun t x hx=>m_app' (ρ:=[]) [.slice none 0 0] (m_anti (fun b hb=>.inl (hXX b hb)) (hsl t x hx))),⟨fun b hb=>(nil_inB hb).elim,Nat.le_refl _,fun x hx=>by cases hx⟩⟩
theorem Kept.nil_below (h:Kept [.slice none 0 0] w w'):Below w.heap.size w w':=⟨h.os,h.tape,h.output,h.size,fun k hk=>h.block k hk nil_inB⟩
theorem fr_mk (hd:a.defers=[]) (hs:a.tmps.size=N) (hX:∀ b,X b->b<w.heap.size) (hn:ρ.length=n) (hnd:(ck.map (·.1)).Nodup) (hkn:∀ x∈ck,x.1<n) (hbl:∀ x∈ck,∀ b,inC ρ x.1 b->b<w.heap.size/\¬X b) (hall:∀ i b,inC ρ i b->∃ x∈ck,x.1=i)
    (hdj:∀ x∈ck,∀ y∈ck,x.1≠y.1->∀ b,inC ρ x.1 b->¬inC ρ y.1 b) (hcs:∀ x∈ck,cm 0 ρ (XX X ρ ck) w x.1 x.2) (hsl:∀ t x,get? sl t=some x->m ρ (XX X ρ ck) w x [gt a t]):Fr w X ρ N ⟨sl,ck,n⟩ ρ a w:=by
 refine ⟨hd,hs,Kept.refl w,hn,hnd,hkn,fun x hx b hb=>⟨(hbl x hx b hb).1,.inr ⟨x.1,hb⟩⟩,hdj,hcs,hsl,⟨?_,Nat.le_of_eq hn,fun x hx T l e hl=>rfl⟩⟩
 rintro b ⟨i,hi⟩
 obtain ⟨x,hx,rfl⟩:=hall i b hi
 exact hbl x hx b hi
theorem Fr.row (h:Fr w0 X0 Bo N st ρ a w) {c:Nat} (hc:(c,CT.row T t l)∈st.ck):∃ v,ρ[c]?=some v/\Rw 0 (XX X0 ρ st.ck) w T t v l:=by
 obtain ⟨v,xs,h1,h2⟩:=h.cs _ hc
 exact ⟨v,h1,xs,h2⟩
theorem Rw.lt {B:Nat} (h:Rw B X w T t v l) {b:Nat} (e:blk v=some b):b<w.heap.size:=by
 obtain ⟨xs,h1,_⟩:=h
 rcases h1.2 with ⟨rfl,_⟩|⟨g,cap,cur,rfl,_,hh,_⟩
 ·cases e
 ·cases e; exact heap_lt hh
theorem Rw.form {B:Nat} (h:Rw B X w T t v l):v.oneCell'=true:=by
 obtain ⟨xs,h1,_⟩:=h
 obtain ⟨_,_,_,rfl⟩:=own_form h1
 rfl
theorem Rw.inV {B b:Nat} (h:Rw B X w T t v l) (hb:Gx.inV v b):blk v=some b:=by
 obtain ⟨xs,h1,_⟩:=h
 exact own_inV h1 hb
end
def repU:(t:Ty)->(Nat->Prop)->World->List Value->t.den->Prop
 | .bool,_,_,cs,b=>cs=[.bool b]
 | .int k,_,_,cs,n=>cs=[.int k n]/\inR k n
 | .str,_,_,cs,s=>cs=[.string ⟨s.toArray⟩]/\s.length<=maxLen
 | .slice t,X,w,cs,l=>∃ a cap,cs=[.slice a l.length cap]/\l.length<=cap/\cap<=maxLen/\(a=none->cap=0) /\
     (l≠[]->∃ b off C T,a=some ⟨b,off,none⟩/\¬X b/\w.heap[b]?=some (.cells C T (0,0)) /\
      ∀ i x,l[i]?=some x->repU t X w ((C.toList.drop (off+i*t.size)).take t.size) x)
 | .pair t u,X,w,cs,p=>repU t X w (cs.take t.size) p.1/\repU u X w (cs.drop t.size) p.2
 | .one t,X,w,cs,p=>repU t X w cs p
 | .fn,_,_,cs,_=>cs=[.nilFunc]
theorem repU.rep:∀ {t:Ty} {X:Nat->Prop} {w:World} {cs:List Value} {a:t.den},repU t X w cs a->Gx.rep t X w cs a
 | .bool,_,_,_,_,h=>h
 | .int _,_,_,_,_,h=>h
 | .str,_,_,_,_,h=>h
 | .slice t,_,_,_,_,⟨a,cap,h1,h2,h3,h4,h5⟩=>⟨a,cap,h1,h2,h3,h4,fun hn=>by
     obtain ⟨b,off,C,T,g1,g2,g3,g4⟩:=h5 hn
     exact ⟨b,off,C,T,_,g1,g2,g3,fun i x hx=>(g4 i x hx).rep⟩⟩
 | .pair t u,_,_,_,_,h=>⟨h.1.rep,h.2.rep⟩
 | .one t,_,_,_,_,h=>repU.rep (t:=t) h
 | .fn,_,_,_,_,h=>h
theorem repU_st:∀ {t:Ty} {X:Nat->Prop} {w w':World} {cs:List Value} {a:t.den},repU t X w cs a->Ev X w w'->repU t X w' cs a
 | .bool,_,_,_,_,_,h,_=>h
 | .int _,_,_,_,_,_,h,_=>h
 | .str,_,_,_,_,_,h,_=>h
 | .slice t,_,_,_,_,_,⟨a,cap,h1,h2,h3,h4,h5⟩,e=>⟨a,cap,h1,h2,h3,h4,fun hn=>by
     obtain ⟨b,off,C,T,g1,g2,g3,g4⟩:=h5 hn
     exact ⟨b,off,C,T,g1,g2,by rw [e.block b (heap_lt g3) g2]; exact g3,fun i x hx=>repU_st (g4 i x hx) e⟩⟩
 | .pair t u,_,_,_,_,_,h,e=>⟨repU_st h.1 e,repU_st h.2 e⟩
 | .one t,_,_,_,_,_,h,e=>repU_st (t:=t) h e
 | .fn,_,_,_,_,_,h,_=>h
theorem repU_anti:∀ {t:Ty} {X Y:Nat->Prop} {w:World} {cs:List Value} {a:t.den},repU t X w cs a->(∀ b,Y b->X b∨w.heap.size<=b)->repU t Y w cs a
 | .bool,_,_,_,_,_,h,_=>h
 | .int _,_,_,_,_,_,h,_=>h
 | .str,_,_,_,_,_,h,_=>h
 | .slice t,_,_,_,_,_,⟨a,cap,h1,h2,h3,h4,h5⟩,e=>⟨a,cap,h1,h2,h3,h4,fun hn=>by
     obtain ⟨b,off,C,T,g1,g2,g3,g4⟩:=h5 hn
     refine ⟨b,off,C,T,g1,fun hy=>?_,g3,fun i x hx=>repU_anti (g4 i x hx) e⟩
     rcases e b hy with h|h
     ·exact g2 h
     ·have:=heap_lt g3; omega⟩
 | .pair t u,_,_,_,_,_,h,e=>⟨repU_anti h.1 e,repU_anti h.2 e⟩
 | .one t,_,_,_,_,_,h,e=>repU_anti (t:=t) h e
 | .fn,_,_,_,_,_,h,_=>h
theorem repU_len {t:Ty} {X:Nat->Prop} {w:World} {cs:List Value} {a:t.den} (h:repU t X w cs a):cs.length=t.size:=rep_len h.rep
theorem repU_one {t:Ty} {X:Nat->Prop} {w:World} {cs:List Value} {a:t.den} (h:repU t X w cs a):∀ c∈cs,c.oneCell'=true:=rep_one h.rep
theorem repU_nil {t:Ty} {X Y:Nat->Prop} {w w':World} {cs:List Value} (h:Gx.rep (.slice t) X w cs []):repU (.slice t) Y w' cs []:=by
 obtain ⟨ad,cap,h1,h2,h3,h4,_⟩:=h
 exact ⟨ad,cap,h1,h2,h3,h4,fun h=>absurd rfl h⟩
def RU (X:Nat->Prop) (w:World) (T:TypeId) (t:Ty) (v:Value) (l:List t.den):Prop :=
 ∃ xs,w.ownsRow 0 T t.size v l.length xs/\(∀ u∈xs,u.oneCell'=true)/\∀ i x,l[i]?=some x->repU t X w ((xs.drop (i*t.size)).take t.size) x
section
variable {w w':World} {X Y:Nat->Prop} {T:TypeId} {t:Ty} {v:Value} {l:List t.den}
theorem RU.rw (h:RU X w T t v l):Rw 0 X w T t v l:=by
 obtain ⟨xs,h1,h2,h3⟩:=h
 exact ⟨xs,h1,h2,fun i x hx=>(h3 i x hx).rep⟩
theorem RU.keep (h:RU X w T t v l) (hb:Below w.heap.size w w'):RU X w' T t v l:=by
 obtain ⟨xs,h1,h2,h3⟩:=h
 refine ⟨xs,ownsRow_of h1 fun b e=>?_,h2,fun i x hx=>repU_st (h3 i x hx) (Ev.of_below hb)⟩
 rcases h1.2 with ⟨rfl,_⟩|⟨g,cap,cur,rfl,_,hh,_⟩
 ·cases e
 ·cases e; exact hb.block g (heap_lt hh)
theorem RU.anti (h:RU X w T t v l) (hY:∀ b,Y b->X b∨w.heap.size<=b):RU Y w T t v l:=by
 obtain ⟨xs,h1,h2,h3⟩:=h
 exact ⟨xs,h1,h2,fun i x hx=>repU_anti (h3 i x hx) hY⟩
theorem RU.dat (h:RU X w T t v l) (hY:∀ b,Y b->X b) (hc:∀ b,blk v=some b->¬Y b):repU (.slice t) Y w [v] l:=by
 obtain ⟨xs,h1,h2,h3⟩:=h
 obtain ⟨h4,⟨h5,h5'⟩|⟨g,cap,cur,h6,_,h7,h8,h9,h10,h11⟩⟩:=h1
 ·have:l=[]:=List.eq_nil_of_length_eq_zero h5'
  subst this
  rw [h5]
  exact ⟨none,0,rfl,Nat.le_refl _,by simp [maxLen],fun _=>rfl,fun h=>absurd rfl h⟩
 ·rw [h6]
  refine ⟨_,cap,rfl,h8,h9,by simp,fun _=>⟨g,0,cur,T,rfl,hc g (by rw [h6]; rfl),h7,fun i x hx=>?_⟩⟩
  have hr:=repU_anti (h3 i x hx) (Y:=Y) fun b hb=>.inl (hY b hb)
  have hi:i<l.length:=by
   rcases Nat.lt_or_ge i l.length with h|h
   ·exact h
   ·rw [List.getElem?_eq_none h] at hx; cases hx
  rw [Nat.zero_add]
  have hle:i*t.size+t.size<=l.length*t.size:=by rw [<-Nat.succ_mul]; exact Nat.mul_le_mul_right _ hi
  rw [<-h11,List.drop_take,List.take_take,Nat.min_eq_left (by omega)] at hr
  exact hr
theorem rwU_store {xs cs:List Value} {x:t.den} {i:Nat} (g5:xs.length=l.length*t.size) (g4:∀ j z,l[j]?=some z->repU t X w ((xs.drop (j*t.size)).take t.size) z) (hi:i<l.length) (r1:repU t X w cs x) :
    ∀ j z,(l.set i x)[j]?=some z->repU t X w (((C_splice xs (i*t.size) t.size cs).drop (j*t.size)).take t.size) z:=by
 intro j z hz
 have hcs:=repU_len r1
 have hle:i*t.size+t.size<=l.length*t.size:=by rw [<-Nat.succ_mul]; exact Nat.mul_le_mul_right _ hi
 by_cases hj:j=i
 ·subst hj
  rw [List.getElem?_set_self hi] at hz
  cases hz
  rw [splice_same hcs (by rw [g5]; exact hle)]
  exact r1
 ·rw [List.getElem?_set_ne (Ne.symm hj)] at hz
  have hjl:j<l.length:=by
   rcases Nat.lt_or_ge j l.length with h|h
   ·exact h
   ·rw [List.getElem?_eq_none h] at hz; cases hz
  rw [splice_other hcs (by rw [g5]; exact hle) (Nat.lt_or_gt_of_ne hj |>.imp (fun h=>by rw [<-Nat.succ_mul]; exact Nat.mul_le_mul_right _ h) (fun h=>by rw [<-Nat.succ_mul]; exact Nat.mul_le_mul_right _ h))]
  exact g4 j z hz
theorem dropU_app {m:List t.den} {xs news:List Value} (hx:xs.length=l.length*t.size) (h1:∀ (i:Nat) (x:t.den),l[i]?=some x->repU t X w ((xs.drop (i*t.size)).take t.size) x)
    (h2:∀ (i:Nat) (x:t.den),m[i]?=some x->repU t X w ((news.drop (i*t.size)).take t.size) x):∀ (i:Nat) (x:t.den),(l++m)[i]?=some x->repU t X w (((xs++news).drop (i*t.size)).take t.size) x:=by
 intro i x hi
 rcases Nat.lt_or_ge i l.length with h|h
 ·rw [List.getElem?_append_left h] at hi
  have hle:i*t.size+t.size<=l.length*t.size:=by rw [<-Nat.succ_mul]; exact Nat.mul_le_mul_right _ h
  rw [List.drop_append_of_le_length (by omega),List.take_append_of_le_length (by rw [List.length_drop]; omega)]
  exact h1 i x hi
 ·rw [List.getElem?_append_right h] at hi
  have e:i*t.size=xs.length+(i-l.length)*t.size:=by rw [hx,<-Nat.add_mul]; congr 1; omega
  rw [e,<-List.drop_drop,List.drop_left' rfl]
  exact h2 _ x hi
end
section
variable {P:Program} {ops:Array Oper} {o:Oper} {rest:List Oper} {x y:Operand} {Q:Exit->Act->World->Prop} {a:Act} {w:World} {b n cap:Nat}
theorem fill1 {A:Array Value} (hA:A.size=1) {v:Value}:Instr.fill (fun i=>some (i*1,1)) A [(0,.agg #[v])]=some #[v]:=by
 have h:=Great.fill_whole (s:=1) (by decide) [.agg #[v]] A (by simp [Value.cells]) (by rw [hA]; rfl)
 exact h.trans (by simp [Value.cells])
theorem wpF_app {T:TypeId} (hg:o.guard=none) (ho:o.op=.call { callee:=.builtin .append,args:=#[x,y],argTypes:=#[T,T] }) {v u v':Value} {w':World} (hx:a.eval x=v) (hy:a.eval y=u) (hr:(Builtin.append_ #[T,T] o.type #[v,u]).run P w=.ok v' w') (hK:wpList P ops Q rest (a.put o.dst v') w'):wpList P ops Q (o::rest) a w:=by
 refine wpList_plain hg fun K hK'=>?_
 unfold Oper.wp
 simp [execOp,ho,resolve,invoke,builtin,hx,hy,hr,Result.andThen]
 exact hK' _ _ hK
theorem wpF_assign (hg:o.guard=none) (ho:o.op=.assign x) (hK:wpList P ops Q rest (a.put o.dst (a.eval x)) w):wpList P ops Q (o::rest) a w:=by
 refine wpList_plain hg fun K hK'=>?_
 unfold Oper.wp
 simp [execOp,ho,Result.andThen]
 exact hK' _ _ hK
theorem wpF_idx {T e:TypeId} {te:TE} (hf:TyFact P e te) (hg:o.guard=none) (ho:o.op=.indexAddr T x y) (hu:P.underlying T=some (.slice e)) (hx:a.eval x=.slice (some ⟨b,0,none⟩) n cap) {k:Nat} (hy:a.eval y=.int .i64 (k:Int)) (hk:k<n) (hK:wpList P ops Q rest (a.put o.dst (.pointer (some ⟨b,k*te.ty.size,none⟩))) w):wpList P ops Q (o::rest) a w:=by
 refine wpList_plain hg fun K hK'=>?_
 unfold Oper.wp
 have hsz:=hf.run_size (w:=w)
 have h:(Instr.indexAt T (.slice (some ⟨b,0,none⟩) n cap) (.int .i64 (k:Int))).run P w=.ok (.pointer (some ⟨b,k*te.ty.size,none⟩)) w:=by
  simp [Instr.indexAt,asIntOf,run_underlying hu,hk,hsz,Addr.add_lit]
 simp [execOp,ho,hx,hy,h,Result.andThen]
 exact hK' _ _ hK
theorem wpF_store {T:TypeId} (hg:o.guard=none) (hd:o.dst=none) (ho:o.op=.store T x y) {off:Nat} {u:Value} {w':World} (hx:a.eval x=.pointer (some ⟨b,off,none⟩)) (hy:a.eval y=u) (hr:(storeVar T ⟨b,off,none⟩ u).run P w=.ok () w') (hK:wpList P ops Q rest a w'):wpList P ops Q (o::rest) a w:=by
 refine wpList_plain hg fun K hK'=>?_
 unfold Oper.wp
 have h:(execOp a.eval o).run P w=.ok .skip w':=by
  obtain ⟨dst,op,ty,pos,af,gd⟩:=o
  dsimp only at ho
  subst ho
  simp only [execOp,hx,hy,Instr.storeAt,Instr.sureAddr,Sem.run_bind,Sem.run_pure,Result.andThen_ok,hr]
 rw [h]
 show K (a.put o.dst undef) w'
 rw [hd]
 exact hK' _ _ hK
theorem wpF_ev {E:Env} {X:Nat->Prop} {ρ:List Value} {ck:List (Nat×CT)} {sl:List (Nat×AV)} {an:An} {r:AV} (hE:E.Ok) (hw:Wd 0 ρ X ck w) (hok:okOp o.op=true) (hg:o.guard=none) (hsl:∀ t,.tmp t∈opL o.op->∀ x,get? sl t=some x->m ρ X w x [gt a t]) (he:ev1 E sl ck [] o an=some (r,[]))
    (hK:∀ z w',m ρ X w' r [z]->Below w.heap.size w w'->wpList E.P ops Q rest (a.put o.dst z) w'):wpList E.P ops Q (o::rest) a w:=by
 refine wpList_plain hg fun K hK'=>?_
 have:=ev1_ok (ops:=#[]) (ds:=[]) (a:=a) hE hw (fun g=>by simp [nthO]) hok hsl (fun g w' hgd=>by rw [hg] at hgd; cases hgd) he trivial
 exact (this.1 (by unfold gok; rw [hg]; trivial)).wp fun z w' ⟨r1,r2⟩=>hK' _ _ (hK z w' r1 r2)
theorem run_append_f {T ty e:TypeId} {te:TE} {B n m cap:Nat} {v:Value} {ad:Addr} {xs news:List Value} (hu:P.underlying T=some (.slice e)) (hf:TyFact P e te) (hB:B<=w.heap.size) (hpos:0<te.ty.size) (ho:w.ownsRow B e te.ty.size v n xs) (hl:news.length=m*te.ty.size) (h1:∀ c∈news,c.oneCell'=true)
    (hc:∀ (j:Nat) (c:Value),news[j]?=some c->w.cell? (ad.add j)=some c) (hm:0<m) (hn:n+m<=maxLen) (hby:(n+m)*te.bytes<=140737488355328) :
    ∃ v' w',(Builtin.append_ #[T,T] ty #[v,.slice (some ad) m cap]).run P w=.ok v' w'/\w'.ownsRow B e te.ty.size v' (n+m) (xs++news)/\w.grownBy w' v.ownBlock/\∀ b,blk v'=some b->blk v=some b∨w.heap.size<=b:=by
 exact run_append hu hf hB hpos ho hl h1 (.inr ⟨ad,cap,rfl,hc⟩) hn hby
end
end Go.Proofs.Ytbokoblnehgkaaa.Gx
namespace Go.Proofs.Ytbokoblnehgkaaa.Gx
open Go Go.RowKit Tw B Nt
set_option linter.unusedVariables false
set_option linter.unusedSimpArgs false
set_option maxHeartbeats 4000000
set_option maxRecDepth 20000
def mU (n:Nat) (w:World) (t:Ty) (a:t.den) (v:Value):Prop:=∃ cs,repU t (fun b=>b<n) w cs a/\v=t.wrap cs
theorem repU_of_row {k:IntKind} {t:TypeId} {base:Nat} {X:Nat->Prop} {w:World} {v:Value} {l:List Int} (h:Row k w v l) (hf:Fresh t base w v) (hX:∀ b,X b->b<base):repU (.slice (.int k)) X w [v] l:=by
 obtain ⟨a,cap,rfl,h2,h3,h4,h5,h6⟩:=h
 refine ⟨a,cap,rfl,h2,h3,h4,fun hne=>?_⟩
 obtain ⟨b,off,rfl,hc⟩:=h6 hne
 obtain ⟨g1,C,g2⟩:=hf b off none _ _ rfl
 refine ⟨b,off,C,t,rfl,fun hx=>?_,g2,fun i x hx=>?_⟩
 ·have:=hX b hx; omega
 ·have hi:i<l.length:=by
    rcases Nat.lt_or_ge i l.length with h|h
    ·exact h
    ·rw [List.getElem?_eq_none h] at hx; cases hx
  have:=hc i hi
  have hxe:l.getD i 0=x:=by simp [hx]
  rw [hxe] at this
  refine ⟨?_,inR_of_wf (h5 x (List.mem_of_getElem? hx))⟩
  simp only [Ty.size,Nat.mul_one]
  have hq:C.toList[off+i]?=some (.int k x):=by simpa [World.cell?,g2] using this
  have hlt:off+i<C.toList.length:=by
   rcases Nat.lt_or_ge (off+i) C.toList.length with h|h
   ·exact h
   ·rw [List.getElem?_eq_none h] at hq; cases hq
  rw [List.drop_eq_getElem_cons hlt,List.take_succ_cons,List.take_zero]
  rw [List.getElem?_eq_getElem hlt] at hq
  rw [Option.some.inj hq]
theorem newU {base:Nat} {w:World} {v:Value} {n:Int} (h:IsNew base w v n):repU nT (fun b=>b<base) w [v] (dg n):=by
 obtain ⟨l,h1,h2,h3,h4⟩:=h
 have:dg n=l:=by rw [<-h3]; exact dg_of h2
 rw [this]
 exact repU_of_row h1 h4 fun b hb=>hb
theorem norm_new {w:World} {v:Value} {f:fT.den} (h:m [] (fun _=>False) w (.dat fT f) [v]) (hf:fs f<=5000000):Calls Try.prog 20 #[v] w (fun e w'=>∃ v',e=.returned v'/\mU w.heap.size w' fT (qf (fq f)) v'/\Below w.heap.size w w'):=by
 refine Calls.mono (qNormalize v 5000000 _ w (raw_of h _ hf) (by decide)) ?_
 rintro e w' ⟨z,rfl,⟨vn,vd,rfl,h1,h2⟩,hb⟩
 exact ⟨_,rfl,⟨[.bool (decide ((fq f).num<0)),vn,vd],⟨rfl,newU h1,newU h2⟩,rfl⟩,hb⟩
theorem gt_args {vs:List Value} {n t:Nat} {x:Value} (h:vs[t]?=some x):gt { tmps:=vs.toArray++Array.replicate n undef,defers:=[] } t=x:=by
 have ht:t<vs.length:=by
  rcases Nat.lt_or_ge t vs.length with h'|h'
  ·exact h'
  ·rw [List.getElem?_eq_none h'] at h; cases h
 unfold gt
 rw [Array.getD_eq_getD_getElem?,Array.getElem?_append_left (by simpa using ht)]
 simp [h]
section
variable {m1 b4 b6:Nat} {u u' w0:World} {v4 v6:Value} {L:List Blk} {l6:List fT.den} {a a':Act} {ρ ρ':List Value} {sl:List (Nat×AV)} {ck:List (Nat×CT)} {n:Nat}
structure GCc (m1 b4 b6:Nat) (u:World) (v4 v6:Value) (L:List Blk) (l6:List fT.den):Prop where
 ne:b4≠b6
 lt4:b4<m1
 lt6:b6<m1
 sz:m1<=u.heap.size
 c4:u.heap[b4]?=some (.cells #[.slice none 0 0] 25 (0,0))
 c6:u.heap[b6]?=some (.cells #[v4] 25 (0,0))
 r4:RU (fun b=>b<m1∨blk v4=some b∨blk v6=some b) u 37 bkT v4 L
 g4:∀ b,blk v4=some b->m1<=b
 r6:RU (fun b=>b<m1∨blk v4=some b∨blk v6=some b) u 41 fT v6 l6
 g6:∀ b,blk v6=some b->m1<=b
 dj:∀ b,blk v4=some b->blk v6≠some b
theorem GCc.keep (h:GCc m1 b4 b6 u v4 v6 L l6) (hb:Below u.heap.size u u'):GCc m1 b4 b6 u' v4 v6 L l6 :=
 ⟨h.ne,h.lt4,h.lt6,Nat.le_trans h.sz hb.size,(hb.block b4 (heap_lt h.c4)).trans h.c4,(hb.block b6 (heap_lt h.c6)).trans h.c6,h.r4.keep hb,h.g4,h.r6.keep hb,h.g6,h.dj⟩
def XA (b4 b6:Nat) (v4 v6:Value) (b:Nat):Prop:=b=b4∨b=b6∨blk v4=some b∨blk v6=some b
theorem GCc.xlt (h:GCc m1 b4 b6 u v4 v6 L l6):∀ b,XA b4 b6 v4 v6 b->b<u.heap.size:=by
 rintro b (rfl|rfl|hb|hb)
 ·exact heap_lt h.c4
 ·exact heap_lt h.c6
 ·exact h.r4.rw.lt hb
 ·exact h.r6.rw.lt hb
def ckN (v4:Value):List (Nat×CT):=[(1,.box 25 (.cons (.val v4) .nil)),(2,.box 25 (.cons (.val (.slice none 0 0)) .nil))]
def roN (b4 b6:Nat):List Value:=[.slice none 0 0,.pointer (some ⟨b6,0,none⟩),.pointer (some ⟨b4,0,none⟩)]
theorem roN_in {i b:Nat} (hi:inC (roN b4 b6) i b):(i=1/\b=b6)∨(i=2/\b=b4):=by
 match i,hi with
 | 0,hi=>exact (nil_inC (c:=0) hi).elim
 | 1,hi=>exact .inl ⟨rfl,by have hi:inV (.pointer (some ⟨b6,0,none⟩)) b:=hi; exact (Option.some.inj hi).symm⟩
 | 2,hi=>exact .inr ⟨rfl,by have hi:inV (.pointer (some ⟨b4,0,none⟩)) b:=hi; exact (Option.some.inj hi).symm⟩
 | i+3,hi=>exact (inC_none (by simp [roN]) hi).elim
theorem frN (h:GCc m1 b4 b6 u v4 v6 L l6) (hd:a.defers=[]) (hs:a.tmps.size=75) (hsl:∀ t x,get? sl t=some x->m (roN b4 b6) (XX (fun _=>False) (roN b4 b6) (ckN v4)) u x [gt a t]):Fr u (fun _=>False) (roN b4 b6) 75 ⟨sl,ckN v4,3⟩ (roN b4 b6) a u:=by
 refine fr_mk hd hs (fun b hb=>hb.elim) rfl (show [1,2].Nodup by decide) ?_ ?_ ?_ ?_ ?_ hsl
 ·intro x hx
  simp only [ckN,List.mem_cons,List.not_mem_nil,or_false] at hx
  rcases hx with rfl|rfl<;>(dsimp only; decide)
 ·intro x hx b hb
  rcases roN_in hb with ⟨_,e⟩|⟨_,e⟩
  ·rw [e]; exact ⟨heap_lt h.c6,fun hx=>hx⟩
  ·rw [e]; exact ⟨heap_lt h.c4,fun hx=>hx⟩
 ·intro i b hb
  rcases roN_in hb with ⟨e,_⟩|⟨e,_⟩<;>subst e
  ·exact ⟨_,List.mem_cons_self,rfl⟩
  ·exact ⟨_,List.mem_cons_of_mem _ List.mem_cons_self,rfl⟩
 ·intro x hx y hy hne b h1 h2
  rcases roN_in h1 with ⟨e1,f1⟩|⟨e1,f1⟩<;>rcases roN_in h2 with ⟨e2,f2⟩|⟨e2,f2⟩<;>first
   | exact hne (e1.trans e2.symm)
   | exact h.ne (f1.symm.trans f2)
   | exact h.ne (f2.symm.trans f1)
 ·intro x hx
  simp only [ckN,List.mem_cons,List.not_mem_nil,or_false] at hx
  rcases hx with rfl|rfl
  ·refine ⟨rfl,b6,_,rfl,h.c6,⟨v4,[],rfl,rfl,rfl⟩,fun c hc=>?_⟩
   have hc:c=v4:=by simpa using hc
   rw [hc]; exact h.r4.rw.form
  ·refine ⟨rfl,b4,_,rfl,h.c4,⟨_,[],rfl,rfl,rfl⟩,fun c hc=>?_⟩
   have hc:c=.slice none 0 0:=by simpa using hc
   rw [hc]; rfl
def pnA (x:AV):Prop:=(∃ t d,x=.dat t d)∨∃ v,x=.val v
theorem pnA_m {x:AV} (h:pnA x) {X:Nat->Prop} {vs:List Value} (hm:m ρ X u x vs):m ρ' X u x vs:=by
 rcases h with ⟨t,d,rfl⟩|⟨v,rfl⟩
 ·exact hm
 ·exact hm
structure IC (m1 b4 b6:Nat) (w0:World) (sl:List (Nat×AV)) (v4 v6:Value) (L:List Blk) (l6:List fT.den) (a:Act) (u:World):Prop where
 gc:GCc m1 b4 b6 u v4 v6 L l6
 dn:a.defers=[]
 sz:a.tmps.size=75
 sl:∀ t x,get? sl t=some x->m [] (XA b4 b6 v4 v6) u x [gt a t]
 bel:Below w0.heap.size w0 u
theorem IC.fr (h:IC m1 b4 b6 w0 sl v4 v6 L l6 a u):Fr u (XA b4 b6 v4 v6) [.slice none 0 0] 75 ⟨sl,[],1⟩ [.slice none 0 0] a u:=fr_d h.dn h.sz h.sl
theorem IC.seg {st:St} (h:IC m1 b4 b6 w0 sl v4 v6 L l6 a u) (hf:Fr u (XA b4 b6 v4 v6) [.slice none 0 0] 75 st ρ a' u') {sl':List (Nat×AV)} (hs:∀ t x,get? sl' t=some x->get? st.sl t=some x/\pnA x):IC m1 b4 b6 w0 sl' v4 v6 L l6 a' u':=by
 have hb:=hf.kp.nil_below
 refine ⟨h.gc.keep hb,hf.dn,hf.sz,fun t x hx=>?_,h.bel.trans (hb.mono h.bel.size)⟩
 obtain ⟨s1,s2⟩:=hs t x hx
 exact pnA_m s2 (m_anti (fun b hb=>.inl (.inl hb)) (hf.sl t x s1))
theorem IC.row6 {st:St} (h:IC m1 b4 b6 w0 sl v4 (.slice none 0 0) L [] a u) (hf:Fr u (XA b4 b6 v4 (.slice none 0 0)) [.slice none 0 0] 75 st ρ a' u') {c k:Nat} (hk:(c,CT.row 41 fT (List.replicate k (false,[],[])))∈st.ck) (g11:get? st.sl 11=some (.own c)) {S:Value->List (Nat×AV)} (hs:∀ v t x,get? (S v) t=some x->(get? st.sl t=some x/\pnA x)∨(t=11/\x=.val v)) :
    ∃ v6,IC m1 b4 b6 w0 (S v6) v4 v6 L (List.replicate k (false,[],[])) a' u':=by
 have hb:=hf.kp.nil_below
 obtain ⟨v6,q1,q2⟩:=hf.row hk
 obtain ⟨v7,q3,_,q4⟩:=hf.sl _ _ g11
 rw [q1] at q3
 cases q3
 have q4:=(List.cons.inj q4).1
 have hge:∀ b,blk v6=some b->u.heap.size<=b:=fun b e=>(hf.bl _ hk b (inC_blk q1 e)).2.resolve_right nil_inB
 have g:=h.gc
 refine ⟨v6,⟨g.ne,g.lt4,g.lt6,Nat.le_trans g.sz hb.size,(g.keep hb).c4,(g.keep hb).c6,RU.keep (g.r4.anti fun b e=>?_) hb,g.g4,?_,fun b e=>Nat.le_trans g.sz (hge b e),fun b e1 e2=>?_⟩,hf.dn,hf.sz,fun t x hx=>?_,h.bel.trans (hb.mono h.bel.size)⟩
 ·rcases e with e|e|e
  ·exact .inl (.inl e)
  ·exact .inl (.inr (.inl e))
  ·exact .inr (hge b e)
 ·obtain ⟨xs,t1,t2,t3⟩:=q2
  refine ⟨xs,t1,t2,fun i y hy=>?_⟩
  have hy0:y=(false,[],[]):=by
   rw [List.getElem?_replicate] at hy
   split at hy
   ·exact (Option.some.inj hy).symm
   ·cases hy
  subst hy0
  have hr:=t3 i _ hy
  exact ⟨hr.1,repU_nil hr.2.1,repU_nil hr.2.2⟩
 ·have:=g.r4.rw.lt e1
  have:=hge b e2
  omega
 ·rcases hs v6 t x hx with ⟨s1,s2⟩|⟨rfl,rfl⟩
  ·refine pnA_m (ρ:=ρ) s2 (m_anti (fun b hb=>.inl ?_) (hf.sl t x s1))
   rcases hb with hb|hb|hb|hb
   ·exact .inl (.inl hb)
   ·exact .inl (.inr (.inl hb))
   ·exact .inl (.inr (.inr (.inl hb)))
   ·exact .inr ⟨_,hk,inC_blk q1 hb⟩
  ·show [gt a' 11]=[v6]
   rw [q4]
variable {y0 y1 y2 y3 y4 y5 y6 y7:TypeId} {p0 p1 p2 p3 p4 p5 p6 p7:String} {f0 f1 f2 f3 f4 f5 f6 f7:Array Edge} {Q:Exit->Act->World->Prop} {ops:Array Oper} {dd:Option Nat} {at2:Array TypeId}
theorem r16 (h:IC m1 b4 b6 w0 sl v4 v6 L l6 a u) (hw:w0.heap.size<=b4/\w0.heap.size<=b6/\w0.heap.size<=m1) {f:fT.den} {m:Nat} (g61:get? sl 61=some (.dat fT f)) (g60:get? sl 60=some (.dat (.int .i64) (m:Int))) (g59:get? sl 59=some (.val v6)) (hf:fs f<=5000000) (hm:m<l6.length)
    {sl':List (Nat×AV)} (hsl:∀ t x,get? sl' t=some x->get? sl t=some x/\t<59)
    (hQ:∀ a' u',IC m1 b4 b6 w0 sl' v4 v6 L (l6.set m (qf (fq f))) a' u'->Q .normal a' u') :
    wpList EW8.P ops Q [⟨some 62,.call { callee:=.value (.func 20),args:=#[.tmp 61],argTypes:=at2 },y0,p0,f0,none⟩,⟨some 63,.indexAddr 35 (.tmp 59) (.tmp 60),y1,p1,f1,none⟩,⟨none,.store 41 (.tmp 63) (.tmp 62),y2,p2,f2,none⟩] a u:=by
 obtain ⟨cs61,d1,d2⟩:=h.sl _ _ g61
 have d2:=(List.cons.inj d2).1
 have hent:=callFunc_ok (P:=EW8.P) (f:=20) Try.func20 rfl rfl
 refine wpList_plain rfl fun K hK=>?_
 unfold Oper.wp
 have hx:a.eval (.tmp 61)=gt a 61:=rfl
 rw [execOp_call_go,show #[]++#[Operand.tmp 61].map a.eval++#[]=#[gt a 61] by simp [hx],hent]
 refine Calls.mono (norm_new (f:=f) ⟨cs61,rep_anti d1 fun b hb=>hb.elim,by rw [d2]⟩ hf) ?_
 rintro e u1 ⟨z,rfl,⟨cz,hz,ez⟩,hb⟩
 refine hK _ _ ?_
 have hgc:=h.gc.keep hb
 have e59:gt a 59=v6:=(List.cons.inj (h.sl _ _ g59)).1
 have e60:gt a 60=.int .i64 (m:Int):=(m_int (h.sl _ _ g60)).1
 obtain ⟨xs,t1,t2,t3⟩:=hgc.r6
 have hft:TyFact Try.prog 41 ⟨fT,0,56,3⟩:=EW8_ok.fact (E:=EW8) rfl
 have hus:=und_slice (E:=EW8) EW8_ok (T:=35) (e:=⟨.slice fT,41,24,0⟩) rfl rfl
 obtain ⟨g,cap,ev⟩:∃ g cap,v6=.slice (some ⟨g,0,none⟩) l6.length cap:=by
  rcases t1.2 with ⟨_,e⟩|⟨g,cap,cur,e,_⟩
  ·omega
  ·exact ⟨g,cap,e⟩
 have hbk:blk v6=some g:=by rw [ev]; rfl
 have hgm:m1<=g:=hgc.g6 g hbk
 have hat:∀ t,t<62->gt ((a.put (some 62) z).put (some 63) (.pointer (some ⟨g,m*3,none⟩))) t=gt a t:=fun t ht=>by
  rw [gt_put_ne (fun e=>Nat.ne_of_lt (Nat.lt_succ_of_lt ht) (Option.some.inj e).symm),gt_put_ne (fun e=>Nat.ne_of_lt ht (Option.some.inj e).symm)]
 have hsz:a.tmps.size=75:=h.sz
 refine wpF_idx (b:=g) (n:=l6.length) (cap:=cap) hft rfl rfl hus (x:=.tmp 59) (y:=.tmp 60) ?_ (k:=m) ?_ hm ?_
 ·show gt (a.put (some 62) z) 59=_
  rw [gt_put_ne (by decide),e59,ev]
 ·show gt (a.put (some 62) z) 60=_
  rw [gt_put_ne (by decide),e60]
 obtain ⟨u2,s1,s2,s3,s4,s5,s6⟩:=own_store (P:=Try.prog) hft t1 hm hbk (cs:=cz) (repU_len hz) (repU_one hz)
 refine wpF_store (u:=z) (w':=u2) rfl rfl rfl (x:=.tmp 63) (y:=.tmp 62) (off:=m*3) ?_ ?_ (by rw [ez]; exact s1) (wpList_nil (hQ _ _ ?_))
 ·exact gt_put_self (by rw [size_put,hsz]; decide) _
 ·show gt ((a.put (some 62) z).put (some 63) _) 62=z
  rw [gt_put_ne (by decide)]
  exact gt_put_self (by rw [hsz]; decide) z
 have hE:∀ {X:Nat->Prop},X g->Ev X u1 u2:=fun hX=>⟨Nat.le_of_eq s3.symm,fun k hk hn=>s2 k fun e=>hn (by rw [e]; exact hX)⟩
 have hX6:(fun b=>b<m1∨blk v4=some b∨blk v6=some b) g:=.inr (.inr hbk)
 have hu1:u.heap.size<=u1.heap.size:=hb.size
 refine ⟨⟨hgc.ne,hgc.lt4,hgc.lt6,by rw [s3]; exact hgc.sz,by rw [s2 b4 (by have:=hgc.lt4; omega)]; exact hgc.c4,by rw [s2 b6 (by have:=hgc.lt6; omega)]; exact hgc.c6,?_,hgc.g4,?_,hgc.g6,hgc.dj⟩,by rw [defers_put,defers_put]; exact h.dn,by rw [size_put,size_put]; exact hsz,fun t x hx=>?_,?_⟩
 ·obtain ⟨ys,k1,k2,k3⟩:=hgc.r4
  exact ⟨ys,ownsRow_of k1 fun b e=>s2 b fun e2=>by rw [e2] at e; exact hgc.dj g e hbk,k2,fun i y hy=>repU_st (k3 i y hy) (hE hX6)⟩
 ·refine ⟨C_splice xs (m*fT.size) fT.size cz,by rw [List.length_set]; exact s5,fun c hc=>?_,rwU_store t1.1 (fun j y hy=>repU_st (t3 j y hy) (hE hX6)) hm (repU_st (repU_anti hz fun b hb=>.inl ?_) (hE hX6))⟩
  ·unfold C_splice at hc
   rcases List.mem_append.1 hc with hc|hc
   ·rcases List.mem_append.1 hc with hc|hc
    ·exact t2 c (List.mem_of_mem_take hc)
    ·exact repU_one hz c hc
   ·exact t2 c (List.mem_of_mem_drop hc)
  ·rcases hb with hb|hb|hb
   ·exact Nat.lt_of_lt_of_le hb h.gc.sz
   ·exact h.gc.r4.rw.lt hb
   ·exact h.gc.r6.rw.lt hb
 ·obtain ⟨q1,q2⟩:=hsl t x hx
  show Gx.m [] (XA b4 b6 v4 v6) u2 x [gt ((a.put (some 62) z).put (some 63) (.pointer (some ⟨g,m*3,none⟩))) t]
  rw [hat t (by omega)]
  exact m_st (hE (.inr (.inr (.inr hbk)))) (m_st (Ev.of_below hb) (h.sl t x q1))
 ·have hB:=h.bel.trans (hb.mono h.bel.size)
  exact ⟨s4.1.trans hB.os,s4.2.1.trans hB.tape,s4.2.2.trans hB.output,by rw [s3]; exact hB.size,fun k hk=>(s2 k (by omega)).trans (hB.block k hk)⟩
theorem GCc.wd (h:GCc m1 b4 b6 u v4 v6 L l6):Wd 0 (roN b4 b6) (XX (fun _=>False) (roN b4 b6) (ckN v4)) (ckN v4) u :=
 (frN (sl:=[]) (a:={ tmps:=Array.replicate 75 undef,defers:=[] }) h rfl (by simp) (fun t x hx=>by cases hx)).wd fun b hb=>hb.elim
theorem put_low {a:Act} {z:Value} {d t:Nat} (h:t<d):gt (a.put (some d) z) t=gt a t:=gt_put_ne (fun e=>Nat.ne_of_lt h (Option.some.inj e).symm) z
theorem r18 (h:IC m1 b4 b6 w0 sl v4 v6 L l6 a u) (hw:w0.heap.size<=b4/\w0.heap.size<=b6/\w0.heap.size<=m1) (g6:get? sl 6=some (.val (.pointer (some ⟨b6,0,none⟩)))) (g11:get? sl 11=some (.val v6)) (hL:L.length<=1000000)
    {sl':List (Nat×AV)} (hsl:∀ t x,get? sl' t=some x->get? sl t=some x/\t<65)
    (hQ:∀ v4' a' u',IC m1 b4 b6 w0 sl' v4' (.slice none 0 0) (L++[l6]) [] a' u'->Q .normal a' u') :
    wpList EW8.P ops Q [⟨some 65,.fieldAddr 25 (.tmp 6) 0,y0,p0,f0,none⟩,⟨some 66,.load 23 (.tmp 65),y1,p1,f1,none⟩,⟨some 67,.move (.tmp 11),y2,p2,f2,none⟩,⟨some 68,.build 37 #[(0,.tmp 67)],y3,p3,f3,none⟩,⟨some 69,.buildSlice 23 1 #[(0,.tmp 68)],y4,p4,f4,none⟩,⟨some 70,.call { callee:=.builtin .append,args:=#[.tmp 66,.tmp 69],argTypes:=#[23,23] },y5,p5,f5,none⟩,⟨some 71,.fieldAddr 25 (.tmp 6) 0,y6,p6,f6,none⟩,⟨none,.store 23 (.tmp 71) (.tmp 70),y7,p7,f7,none⟩] a u:=by
 have e11:gt a 11=v6:=(List.cons.inj (h.sl _ _ g11)).1
 have e6:gt a 6=.pointer (some ⟨b6,0,none⟩):=(List.cons.inj (h.sl _ _ g6)).1
 have hsz:a.tmps.size=75:=h.sz
 refine wpF_ev (sl:=[(6,.ref 1 0)]) (an:=.no) (r:=.ref 1 0) EW8_ok h.gc.wd rfl rfl (fun t ht x hx=>?_) rfl fun z5 u1 r1 q1=>?_
 ·have ht:t=6:=by simpa [opL] using ht
  subst ht
  simp only [get?,Nat.beq_refl] at hx
  cases hx
  rw [e6]
  exact ⟨_,b6,rfl,rfl,rfl⟩
 obtain ⟨w5,c5,n1,n2,n3⟩:=r1
 cases n1
 cases n2
 have n3:=(List.cons.inj n3).1
 subst n3
 have gc1:=h.gc.keep q1
 refine wpF_ev (sl:=[(65,.ref 1 0)]) (an:=.no) (r:=.val v4) EW8_ok gc1.wd rfl rfl (fun t ht x hx=>?_) rfl fun z6 u2 r2 q2=>?_
 ·have ht:t=65:=by simpa [opL] using ht
  subst ht
  simp only [get?,Nat.beq_refl] at hx
  cases hx
  refine ⟨_,b6,rfl,rfl,?_⟩
  exact congrArg (fun z=>[z]) (gt_put_self (by rw [hsz]; decide) _)
 have r2:z6=v4:=(List.cons.inj r2).1
 subst r2
 have gc2:=gc1.keep q2
 refine wpF_ev (sl:=[(11,.val v6)]) (an:=.no) (r:=.val v6) EW8_ok gc2.wd rfl rfl (fun t ht x hx=>?_) rfl fun z7 u3 r3 q3=>?_
 ·have ht:t=11:=by simpa [opL] using ht
  subst ht
  simp only [get?,Nat.beq_refl] at hx
  cases hx
  show [gt ((a.put (some 65) _).put (some 66) _) 11]=[v6]
  rw [gt_put_ne (by decide),gt_put_ne (by decide),e11]
 have r3:z7=v6:=(List.cons.inj r3).1
 subst r3
 have gc3:=gc2.keep q3
 refine wpF_ev (ρ:=[z7]) (X:=fun _=>False) (ck:=[]) (sl:=[(67,.own 0)]) (an:=.ag) (r:=.agg (.cons (.own 0) .nil)) EW8_ok ⟨fun b h=>h.elim,fun y hy=>by cases hy⟩ rfl rfl (fun t ht x hx=>?_) rfl fun z8 u4 r4 q4=>?_
 ·have ht:t=67:=by simpa [opL,partL] using ht
  subst ht
  simp only [get?,Nat.beq_refl] at hx
  cases hx
  exact ⟨z7,rfl,gc3.r6.rw.form,congrArg (fun z=>[z]) (gt_put_self (by rw [size_put,size_put,hsz]; decide) _)⟩
 obtain ⟨us,n1,⟨z9,us2,n2,⟨z10,n3,_,n5⟩,n4⟩,-⟩:=r4
 have n4:us2=[]:=n4
 subst n4
 have n3:z7=z10:=Option.some.inj n3
 subst n3
 have n5:z9=z7:=(List.cons.inj n5).1
 subst n5
 subst n2
 have n1:=(List.cons.inj n1).1
 subst n1
 have gc4:=gc3.keep q4
 have hfb:TyFact Try.prog 37 ⟨bkT,0,24,1⟩:=EW8_ok.fact (E:=EW8) rfl
 have hus:=und_slice (E:=EW8) EW8_ok (T:=23) (e:=⟨.slice bkT,37,24,0⟩) rfl rfl
 obtain ⟨ie,hie,hzi,hs,hby⟩:=hfb.info
 have hs1:ie.size=1:=hs
 have hb5:=below_alloc u4 (.cells #[z9] 37)
 refine wpList_buildSlice rfl 23 37 1 #[(0,.tmp 68)] rfl #[z9] ie _ hus hie hzi (by rw [hs1]; decide) (by rw [hs1]; decide) ?_ ?_
 ·rw [hs1]
  have q0:Act.eval ((((a.put (some 65) (.pointer (some ⟨b6,0,none⟩))).put (some 66) z6).put (some 67) z9).put (some 68) (.agg #[z9])) (.tmp 68)=.agg #[z9]:=gt_put_self (by rw [size_put,size_put,size_put,hsz]; decide) _
  simp only [List.map_toArray,List.map_cons,List.map_nil]
  rw [show Act.eval _ (Operand.tmp 68)=.agg #[z9] from q0]
  refine fill1 ?_
  simp
 have hcell:(u4.alloc (.cells #[z9] 37)).heap[u4.heap.size]?=some (.cells #[z9] 37 (0,0)):=heap_alloc_new u4 _
 have gc5:=gc4.keep hb5
 have hle5:u4.heap.size<=(u4.alloc (.cells #[z9] 37)).heap.size:=hb5.size
 generalize u4.alloc (.cells #[z9] 37)=u5 at hb5 hcell gc5 hle5 ⊢
 obtain ⟨xs,t1,t2,t3⟩:=gc5.r4
 obtain ⟨v4',u6,k1,k2,k3,k4⟩:=run_append_f (P:=Try.prog) (w:=u5) (T:=23) (ty:=y5) (B:=0) (n:=L.length) (m:=1) (cap:=1) (v:=z6) (ad:=⟨u4.heap.size,0,none⟩) (xs:=xs) (news:=[z9]) hus hfb (Nat.zero_le _) (by decide) t1 rfl (fun c hc=>by rw [List.mem_singleton.1 hc]; exact gc5.r6.rw.form) (fun j c hj=>by
  have hj0:j=0:=by
   rcases j with _|j
   ·rfl
   ·cases hj
  subst hj0
  cases hj
  rw [Addr.add_lit]
  simp [World.cell?,hcell]) (by decide) (by simp only [maxLen]; omega) (by show (L.length+1)*24<=_; omega)
 refine wpF_app (v:=z6) (u:=.slice (some ⟨u4.heap.size,0,none⟩) 1 1) (v':=v4') (w':=u6) rfl rfl ?_ ?_ k1 ?_
 ·show gt (((((a.put (some 65) _).put (some 66) z6).put (some 67) _).put (some 68) _).put (some 69) _) 66=z6
  rw [gt_put_ne (by decide),gt_put_ne (by decide),gt_put_ne (by decide)]
  exact gt_put_self (by rw [size_put,hsz]; decide) _
 ·exact gt_put_self (by rw [size_put,size_put,size_put,size_put,hsz]; decide) _
 have hob:z6.ownBlock=blk z6:=ownB (own_form t1)
 rw [hob] at k3
 refine wpF_ev (ρ:=roN b4 b6) (X:=fun _=>False) (ck:=[]) (sl:=[(6,.ref 1 0)]) (an:=.no) (r:=.ref 1 0) EW8_ok ⟨fun b h=>h.elim,fun y hy=>by cases hy⟩ rfl rfl (fun t ht x hx=>?_) rfl fun z5 u7 r5 q5=>?_
 ·have ht:t=6:=by simpa [opL] using ht
  subst ht
  simp only [get?,Nat.beq_refl] at hx
  cases hx
  refine ⟨_,b6,rfl,rfl,congrArg (fun z=>[z]) ?_⟩
  show gt ((((((a.put (some 65) _).put (some 66) _).put (some 67) _).put (some 68) _).put (some 69) _).put (some 70) _) 6=_
  rw [gt_put_ne (by decide),gt_put_ne (by decide),gt_put_ne (by decide),gt_put_ne (by decide),gt_put_ne (by decide),gt_put_ne (by decide),e6]
 obtain ⟨w5,c5,n1,n2,n3⟩:=r5
 cases n1
 cases n2
 have n3:=(List.cons.inj n3).1
 subst n3
 have hb6:u7.heap[b6]?=some (.cells #[z6] 25 (0,0)):=by
  rw [q5.block b6 (Nat.lt_of_lt_of_le (heap_lt gc5.c6) k3.size),k3.block b6 (heap_lt gc5.c6) (fun e=>by have:=gc5.g4 b6 e.symm; have:=gc5.lt6; omega)]
  exact gc5.c6
 have hfs:TyFact Try.prog 23 ⟨.slice bkT,37,24,0⟩:=EW8_ok.fact (E:=EW8) rfl
 have hone':v4'.oneCell'=true:=by
  obtain ⟨_,_,_,e⟩:=own_form k2
  rw [e]; rfl
 have hst:=run_storeVar (P:=Try.prog) (w:=u7) hfs (off:=0) hb6 (cs:=[v4']) rfl (fun c hc=>by rw [List.mem_singleton.1 hc]; exact hone') (show 0+1<=1 by decide)
 refine wpF_store (off:=0) (u:=v4') rfl rfl rfl ?_ ?_ hst (wpList_nil (hQ v4' _ _ ?_))
 ·exact gt_put_self (by rw [size_put,size_put,size_put,size_put,size_put,size_put,hsz]; decide) _
 ·show gt (((((((a.put (some 65) _).put (some 66) _).put (some 67) _).put (some 68) _).put (some 69) _).put (some 70) v4').put (some 71) _) 70=_
  rw [gt_put_ne (by decide)]
  exact gt_put_self (by rw [size_put,size_put,size_put,size_put,size_put,hsz]; decide) _
 have hrow:(#[z6].toList.take 0++[v4']++#[z6].toList.drop (0+Ty.size (.slice bkT))).toArray=#[v4']:=rfl
 rw [show (TE.mk (.slice bkT) 37 24 0).ty=.slice bkT from rfl,hrow]
 have x1:=setRow_heap u7 b6 #[z6] #[v4'] 25 (0,0) hb6
 have x2:∀ k,k≠b6->(u7.setRow b6 #[v4']).heap[k]?=u7.heap[k]?:=fun k hk=>setRow_other u7 b6 k _ hk
 have x3:(u7.setRow b6 #[v4']).heap.size=u7.heap.size:=size_setRow _ _ _
 have x4:(u7.setRow b6 #[v4']).os=u7.os/\(u7.setRow b6 #[v4']).tape=u7.tape/\(u7.setRow b6 #[v4']).output=u7.output:=⟨rfl,rfl,rfl⟩
 generalize u7.setRow b6 #[v4']=u8 at x1 x2 x3 x4 ⊢
 have hB5:Below u.heap.size u u5:=q1.trans ((q2.mono q1.size).trans ((q3.mono (Nat.le_trans q1.size q2.size)).trans ((q4.mono (Nat.le_trans q1.size (Nat.le_trans q2.size q3.size))).trans (hb5.mono (Nat.le_trans q1.size (Nat.le_trans q2.size (Nat.le_trans q3.size q4.size)))))))
 have hz6:∀ b,blk z6=some b->m1<=b:=gc5.g4
 have hlt6:=gc5.lt6
 have hlt4:=gc5.lt4
 have h56:u5.heap.size<=u6.heap.size:=k3.size
 have h67:u6.heap.size<=u7.heap.size:=q5.size
 have hch:∀ k,k<u5.heap.size->blk z6≠some k->k≠b6->u8.heap[k]?=u5.heap[k]?:=fun k hk h1 h2=>by
  rw [x2 k h2,q5.block k (by omega),k3.block k hk fun e=>h1 e.symm]
 have hEv:∀ {X:Nat->Prop},(∀ b,blk z6=some b->X b)->X b6->Ev X u5 u8:=fun h1 h2=>⟨by omega,fun k hk hn=>hch k hk (fun e=>hn (h1 k e)) fun e=>hn (by rw [e]; exact h2)⟩
 have hv4:∀ b,blk v4'=some b->blk z6=some b∨u5.heap.size<=b:=k4
 have own8:u8.ownsRow 0 37 1 v4' (L.length+1) (xs++[z9]):=by
  have o7:u7.ownsRow 0 37 1 v4' (L.length+1) (xs++[z9]):=ownsRow_of k2 fun b e=>q5.block b (by
   rcases k2.2 with ⟨e2,_⟩|⟨g,cap,cur,e2,_,hh,_⟩
   ·rw [e2] at e; cases e
   ·rw [e2] at e; cases e; exact heap_lt hh)
  refine ownsRow_of o7 fun b e=>x2 b fun e2=>?_
  rcases hv4 b e with h1|h1
  ·have:=hz6 b h1; omega
  ·have:=heap_lt gc5.c6; omega
 have hdat:repU (.slice fT) (fun b=>b<m1∨blk z6=some b∨blk v4'=some b) u8 [z9] l6:=by
  have r6':=gc5.r6.anti (Y:=fun b=>(b<m1∨blk z6=some b∨blk z9=some b)∨blk v4'=some b) fun b hb=>by
   rcases hb with hb|hb
   ·exact .inl hb
   ·exact (hv4 b hb).imp (fun h=>.inr (.inl h)) id
  refine repU_st (r6'.dat (Y:=fun b=>b<m1∨blk z6=some b∨blk v4'=some b) (fun b hb=>?_) (fun b hb hY=>?_)) (hEv (fun b hb=>.inr (.inl hb)) (.inl hlt6))
  ·rcases hb with hb|hb|hb
   ·exact .inl (.inl hb)
   ·exact .inl (.inr (.inl hb))
   ·exact .inr hb
  ·have:=gc5.g6 b hb
   have hl:=gc5.r6.rw.lt hb
   rcases hY with hY|hY|hY
   ·omega
   ·exact gc5.dj b hY hb
   ·rcases hv4 b hY with h1|h1
    ·exact gc5.dj b h1 hb
    ·omega
 have hel:∀ (i:Nat) (y:bkT.den),(L++[l6])[i]?=some y->repU bkT (fun b=>b<m1∨blk z6=some b∨blk v4'=some b) u8 (((xs++[z9]).drop (i*bkT.size)).take bkT.size) y:=by
  refine dropU_app t1.1 (fun i y hy=>?_) (fun i y hy=>?_)
  ·refine repU_st (repU_anti (t3 i y hy) fun b hb=>?_) (hEv (fun b hb=>.inr (.inl hb)) (.inl hlt6))
   rcases hb with hb|hb|hb
   ·exact .inl (.inl hb)
   ·exact .inl (.inr (.inl hb))
   ·exact (hv4 b hb).imp (fun h=>.inr (.inl h)) id
  ·rcases i with _|i
   ·cases hy; exact hdat
   ·cases hy
 have hto:∀ b,(b<m1∨blk v4'=some b∨blk (.slice none 0 0)=some b)->(b<m1∨blk z6=some b∨blk v4'=some b)∨u8.heap.size<=b:=by
  rintro b (hb|hb|hb)
  ·exact .inl (.inl hb)
  ·exact .inl (.inr (.inr hb))
  ·cases hb
 refine ⟨⟨gc5.ne,hlt4,hlt6,by have:=gc5.sz; omega,?_,x1,⟨xs++[z9],by rw [List.length_append]; exact own8,fun c hc=>?_,fun i y hy=>repU_anti (hel i y hy) hto⟩,fun b hb=>?_,⟨[],World.ownsRow_nil _ _ _ _,by simp,by simp⟩,(fun b hb=>by cases hb),fun b _ hb=>by cases hb⟩,?_,?_,fun t x hx=>?_,?_⟩
 ·rw [hch b4 (heap_lt gc5.c4) (fun e=>by have:=hz6 b4 e; omega) gc5.ne]
  exact gc5.c4
 ·rcases List.mem_append.1 hc with hc|hc
  ·exact t2 c hc
  ·rw [List.mem_singleton.1 hc]; exact gc5.r6.rw.form
 ·rcases hv4 b hb with h1|h1
  ·exact hz6 b h1
  ·exact Nat.le_trans gc5.sz h1
 ·simp only [defers_put]; exact h.dn
 ·simp only [size_put]; exact hsz
 ·obtain ⟨s1,s2⟩:=hsl t x hx
  have hat:gt (((((((a.put (some 65) (.pointer (some ⟨b6,0,none⟩))).put (some 66) z6).put (some 67) z9).put (some 68) (.agg #[z9])).put (some 69) (.slice (some ⟨u4.heap.size,0,none⟩) 1 1)).put (some 70) v4').put (some 71) (.pointer (some ⟨b6,0,none⟩))) t=gt a t:=by
   rw [put_low (d:=71) (by omega),put_low (d:=70) (by omega),put_low (d:=69) (by omega),put_low (d:=68) (by omega),put_low (d:=67) (by omega),put_low (d:=66) (by omega),put_low (d:=65) (by omega)]
  have hm0:=h.sl t x s1
  have hm1:Gx.m [] (fun b=>XA b4 b6 z6 z9 b∨blk v4'=some b) u x [gt a t]:=m_anti (fun b hb=>by
   rcases hb with hb|hb
   ·exact .inl hb
   ·rcases hv4 b hb with h1|h1
    ·exact .inl (.inr (.inr (.inl h1)))
    ·exact .inr (Nat.le_trans hB5.size h1)) hm0
  have hm2:=m_st (hEv (X:=fun b=>XA b4 b6 z6 z9 b∨blk v4'=some b) (fun b hb=>.inl (.inr (.inr (.inl hb)))) (.inl (.inr (.inl rfl)))) (m_st (Ev.of_below hB5) hm1)
  have hm3:Gx.m [] (XA b4 b6 v4' (.slice none 0 0)) u8 x [gt a t]:=m_anti (fun b hb=>.inl (by
   rcases hb with hb|hb|hb|hb
   ·exact .inl (.inl hb)
   ·exact .inl (.inr (.inl hb))
   ·exact .inr hb
   ·cases hb)) hm2
  exact Eq.mpr (congrArg (fun z=>Gx.m [] (XA b4 b6 v4' (.slice none 0 0)) u8 x [z]) hat) hm3
 ·have hB:=h.bel.trans (hB5.mono h.bel.size)
  refine ⟨x4.1.trans (q5.os.trans (k3.os.trans hB.os)),x4.2.1.trans (q5.tape.trans (k3.tape.trans hB.tape)),x4.2.2.trans (q5.output.trans (k3.output.trans hB.output)),by have:=hB.size; omega,fun k hk=>?_⟩
  rw [hch k (Nat.lt_of_lt_of_le hk hB.size) (fun e=>by have:=hz6 k e; omega) (by omega)]
  exact hB.block k hk
end
@[go_sem] def ccS (a b:List Blk) (b4 b6 i:Nat):List (Nat×AV):=[(36,.dat (.int .i64) (i:Int)),(35,.dat (.int .i64) 2),(34,.dat (.slice spT) [a,b]),(6,.val (.pointer (some ⟨b6,0,none⟩))),(4,.val (.pointer (some ⟨b4,0,none⟩)))]
@[go_sem] def ccS2 (a b:List Blk) (b4 b6 i:Nat) (p:List Blk) (k:Nat):List (Nat×AV):=(43,.dat (.int .i64) (k:Int))::(42,.dat (.int .i64) (List.length p:Int))::(41,.dat (.slice bkT) p)::ccS a b b4 b6 i
@[go_sem] def ccS3 (a b:List Blk) (b4 b6 i:Nat) (p:List Blk) (k:Nat) (x:List fT.den) (v6:Value) (m:Nat):List (Nat×AV):=(54,.dat (.int .i64) (m:Int))::(53,.dat (.int .i64) (List.length x:Int))::(52,.dat (.slice fT) x)::(11,.val v6)::ccS2 a b b4 b6 i p k
@[go_sem] noncomputable def ccX (a b:List Blk):Sx:=⟨EW8,75,[(6,[(34,.dt)])],[],[16,18,21],[],.nil,1,some ([],0)⟩
theorem cc_new {a b:List Blk} (ha:spP a) (hb:spP b) (va:vld a=true) (vb:vld b=true) (hl:a.length+b.length<=4096) {w:World} {x y:Value} (hm:m [] (fun _=>False) w (.cons (.dat spT a) (.cons (.dat spT b) .nil)) [x,y]) :
    Calls Try.prog 8 #[x,y] w (fun e w'=>∃ z,e=.returned (.tuple #[z,.int .i64 0])/\mU w.heap.size w' spT ((a++b).map canB) z/\Below w.heap.size w w'):=by
 obtain ⟨x',us,e1,hx,y',us2,e2,hy,e3⟩:=hm
 have e3:us2=[]:=e3
 subst e3
 subst e2
 cases e1
 obtain ⟨Q,hQ⟩:∃ Q,bodyPost Try.prog Try.f8 (fun e w'=>∃ z,e=.returned (.tuple #[z,.int .i64 0])/\mU w.heap.size w' spT ((a++b).map canB) z/\Below w.heap.size w w')=Q:=⟨_,rfl⟩
 obtain ⟨body,hbody⟩:∃ c,(Try.f8).body=some c:=⟨_,rfl⟩
 refine calls_of_wp Try.func8 hbody ?_
 rw [hQ]
 have hfin:∀ {u:World} {X:Nat->Prop},∀ st ρ a' w',finP (ccX a b) st->Fr u X [.slice none 0 0] (ccX a b).N st ρ a' w'->Q .ret a' w'/\Q .normal a' w':=by
  intro u X st ρ a' w' hfp hf
  exfalso
  unfold finP at hfp
  split at hfp
  ·obtain ⟨_,⟨⟨h6,_⟩,_⟩⟩:=hfp
   exact absurd h6 (show ¬(1<=0) by decide)
  ·exact hfp
 have key:∀ ρ a' w',Fr w (fun _=>False) [.slice none 0 0] 75 ⟨[(0,.dat spT a),(1,.dat spT b)],[],1⟩ ρ a' w'->sem EW8.P Q [.code body] .normal a' w':=by
  cases hbody
  refine run_h (S:=ccX a b) rfl EW8_ok (fun b h=>h.elim) hfin (fun H hH hraw=>?_) (by kernel_rfl)
  refine hH.run 100 _ _ ?_
  dsimp only [go_sem]
  have hinr:inR .i64 ((a.length:Int)+(b.length:Int)):=by rw [inR_i64]; omega
  refine ⟨ha,fun h=>h,fun _=>hb,fun h=>h,fun h=>h,fun h=>?_,fun _=>⟨hinr,fun h=>?_,fun _=>?_⟩⟩
  ·rw [va,vb] at h; cases h
  ·have h:=of_decide_eq_true h
   omega
  refine hH.weak ⟨[(36,.dat (.int .i64) 0),(35,.dat (.int .i64) 2),(34,.dat (.slice spT) [a,b]),(6,.ref 4 0),(4,.ref 3 0)],[(3,.box 25 (.cons (.val (.slice none 0 0)) .nil)),(4,.box 25 (.cons (.val (.slice none 0 0)) .nil))],5⟩ 5 ?_ ?_
  ·dsimp only [go_sem]
   and_intros<;>first|trivial|rfl|omega
  refine hraw _ _ ?_
  intro hok ρ a1 w1 hf
  have k3:=hf.cs (3,.box 25 (.cons (.val (.slice none 0 0)) .nil)) (by simp)
  have k4:=hf.cs (4,.box 25 (.cons (.val (.slice none 0 0)) .nil)) (by simp)
  obtain ⟨-,b4,cs,p4,q4,⟨z,us,e4,e5,e6⟩,-⟩:=k3
  have e6:us=[]:=e6
  subst e6
  have e5:=(List.cons.inj e5).1
  subst e5
  have ecs:cs=#[.slice none 0 0]:=by simpa using congrArg List.toArray e4
  subst ecs
  obtain ⟨-,b6,cs,p6,q6,⟨z,us,e4,e5,e6⟩,-⟩:=k4
  have e6:us=[]:=e6
  subst e6
  have e5:=(List.cons.inj e5).1
  subst e5
  have ecs:cs=#[.slice none 0 0]:=by simpa using congrArg List.toArray e4
  subst ecs
  have p4:ρ[3]?=some (.pointer (some ⟨b4,0,none⟩)):=p4
  have p6:ρ[4]?=some (.pointer (some ⟨b6,0,none⟩)):=p6
  have i4:inC ρ 3 b4:=inC_blk p4 rfl
  have i6:inC ρ 4 b6:=inC_blk p6 rfl
  have m3:(3,CT.box 25 (.cons (.val (.slice none 0 0)) .nil))∈[(3,CT.box 25 (.cons (.val (.slice none 0 0)) .nil)),(4,CT.box 25 (.cons (.val (.slice none 0 0)) .nil))]:=List.mem_cons_self
  have m4:(4,CT.box 25 (.cons (.val (.slice none 0 0)) .nil))∈[(3,CT.box 25 (.cons (.val (.slice none 0 0)) .nil)),(4,CT.box 25 (.cons (.val (.slice none 0 0)) .nil))]:=List.mem_cons_of_mem _ List.mem_cons_self
  have hne:b4≠b6:=fun e=>hf.dj _ m3 _ m4 (by decide) b4 i4 (by rw [e]; exact i6)
  have hge:∀ x∈[(3,CT.box 25 (.cons (.val (.slice none 0 0)) .nil)),(4,CT.box 25 (.cons (.val (.slice none 0 0)) .nil))],∀ b,inC ρ x.1 b->w.heap.size<=b:=fun x hx b hb=>(hf.bl x hx b hb).2.resolve_right nil_inB
  obtain ⟨m1,hm1⟩:∃ m1,w1.heap.size=m1:=⟨_,rfl⟩
  have hw:w.heap.size<=b4/\w.heap.size<=b6/\w.heap.size<=m1:=⟨hge _ m3 _ i4,hge _ m4 _ i6,by rw [<-hm1]; exact hf.kp.size⟩
  have hnilr:∀ {T:TypeId} {t:Ty} {X:Nat->Prop} {u:World},RU X u T t (.slice none 0 0) []:=⟨[],World.ownsRow_nil _ _ _ _,by simp,by simp⟩
  have hgc0:GCc m1 b4 b6 w1 (.slice none 0 0) (.slice none 0 0) [] []:=⟨hne,by rw [<-hm1]; exact heap_lt q4,by rw [<-hm1]; exact heap_lt q6,Nat.le_of_eq hm1.symm,q4,q6,hnilr,(fun b hb=>by cases hb),hnilr,(fun b hb=>by cases hb),fun b hb=>by cases hb⟩
  have hIC0:IC m1 b4 b6 w (ccS a b b4 b6 0) (.slice none 0 0) (.slice none 0 0) [] [] a1 w1:=by
   refine ⟨hgc0,hf.dn,hf.sz,fun t x hx=>?_,hf.kp.nil_below⟩
   have hx:=get?_mem hx
   have hXX:∀ b,XA b4 b6 (.slice none 0 0) (.slice none 0 0) b->XX (fun _=>False) ρ [(3,CT.box 25 (.cons (.val (.slice none 0 0)) .nil)),(4,CT.box 25 (.cons (.val (.slice none 0 0)) .nil))] b:=by
    rintro b (rfl|rfl|hb|hb)
    ·exact .inr ⟨_,m3,i4⟩
    ·exact .inr ⟨_,m4,i6⟩
    ·cases hb
    ·cases hb
   simp only [ccS,List.mem_cons,Prod.mk.injEq,List.not_mem_nil,or_false] at hx
   rcases hx with ⟨rfl,rfl⟩|⟨rfl,rfl⟩|⟨rfl,rfl⟩|⟨rfl,rfl⟩|⟨rfl,rfl⟩
   ·exact pnA_m (ρ:=ρ) (.inl ⟨_,_,rfl⟩) (m_anti (fun b hb=>.inl (hXX b hb)) (hf.sl 36 _ rfl))
   ·exact pnA_m (ρ:=ρ) (.inl ⟨_,_,rfl⟩) (m_anti (fun b hb=>.inl (hXX b hb)) (hf.sl 35 _ rfl))
   ·exact pnA_m (ρ:=ρ) (.inl ⟨_,_,rfl⟩) (m_anti (fun b hb=>.inl (hXX b hb)) (hf.sl 34 _ rfl))
   ·obtain ⟨z,c,r1,r2,r3⟩:=hf.sl 6 (.ref 4 0) rfl
    rw [p6] at r1
    cases r1
    cases r2
    exact r3
   ·obtain ⟨z,c,r1,r2,r3⟩:=hf.sl 4 (.ref 3 0) rfl
    rw [p4] at r1
    cases r1
    cases r2
    exact r3
  have hall:∀ p∈[a,b],spP p/\(∀ x∈p,∀ f∈x,wfD fT f):=fun p hp=>by
   simp only [List.mem_cons,List.not_mem_nil,or_false] at hp
   obtain ⟨cs1,t1,_⟩:=hx
   obtain ⟨cs2,t2,_⟩:=hy
   have u1:=rep_wf t1
   have u2:=rep_wf t2
   rcases hp with rfl|rfl
   ·exact ⟨ha,fun x hx=>(u1.2 x hx).2⟩
   ·exact ⟨hb,fun x hx=>(u2.2 x hx).2⟩
  have hlen2:∀ k,((List.take k [a,b]).flatten.map canB).length<=10000:=fun k=>by
   have h1:=ha.1
   have h2:=hb.1
   rcases k with _|_|k<;>simp<;>omega
  refine floop (fun (i:Nat) a2 u2=>i<=2/\∃ v4,IC m1 b4 b6 w (ccS a b b4 b6 i) v4 (.slice none 0 0) ((List.take i [a,b]).flatten.map canB) [] a2 u2) (fun i=>2-i) 0 ⟨Nat.zero_le _,_,hIC0⟩ ?_
  rintro i a2 u2 ⟨hi,v4,hI⟩
  rw [<-sem_mark]
  refine run_h (S:=ccX a b) (k:=.code _::.mark _::_) rfl EW8_ok hI.gc.xlt hfin (fun H hH hraw=>?_) (by kernel_rfl) _ a2 u2 hI.fr
  refine hH.run 100 _ _ ?_
  dsimp only [go_sem]
  rw [Int.toNat_natCast]
  refine ⟨fun e=>?_,fun e=>?_⟩<;>simp only [decide_eq_true_eq,decide_eq_false_iff_not] at e
  ·have e:i<2:=by have e:(i:Int)<2:=e; omega
   have e2:i<[a,b].length:=e
   have b1:(0:Int)<=(i:Int)/\(i:Int)<((2:Nat):Int):=by omega
   refine ⟨b1,hraw _ _ ?_⟩
   have hzp:List.getD [a,b] i (zd spT)=List.getD [a,b] i []:=rfl
   have hpm:=getD_mem (l:=[a,b]) [] e2
   have htk:=take_get [a,b] i [] e2
   rw [hzp]
   have hl0:=hlen2 i
   have hl1:=hlen2 (i+1)
   rw [htk] at hl1
   generalize List.getD [a,b] i []=p at *
   obtain ⟨⟨hp1,hp2⟩,hp3⟩:=hall p hpm
   have hfl:(List.take i [a,b]++[p]).flatten.map canB=(List.take i [a,b]).flatten.map canB++p.map canB:=by simp
   rw [hfl] at hl1
   have htk2:(List.take (i+1) [a,b]).flatten.map canB=(List.take i [a,b]).flatten.map canB++p.map canB:=by rw [htk,hfl]
   generalize (List.take i [a,b]).flatten.map canB=L at *
   intro hok3 ρ3 a3 u3 hf3
   have hI3:=hI.seg hf3 (sl':=ccS2 a b b4 b6 i p 0) fun t x hx=>by
    have hx:=get?_mem hx
    simp only [ccS2,ccS,List.mem_cons,Prod.mk.injEq,List.not_mem_nil,or_false] at hx
    rcases hx with ⟨rfl,rfl⟩|⟨rfl,rfl⟩|⟨rfl,rfl⟩|⟨rfl,rfl⟩|⟨rfl,rfl⟩|⟨rfl,rfl⟩|⟨rfl,rfl⟩|⟨rfl,rfl⟩<;>first|exact ⟨rfl,.inl ⟨_,_,rfl⟩⟩|exact ⟨rfl,.inr ⟨_,rfl⟩⟩
   refine floop (fun (k:Nat) a2 u2=>k<=p.length/\∃ v4,IC m1 b4 b6 w (ccS2 a b b4 b6 i p k) v4 (.slice none 0 0) (L++(List.take k p).map canB) [] a2 u2) (fun k=>p.length-k) 0 ⟨Nat.zero_le _,_,by rw [List.take_zero,List.map_nil,List.append_nil]; exact hI3⟩ ?_
   rintro k a4 u4 ⟨hk,v4',hI4⟩
   rw [<-sem_mark]
   refine run_h (S:=ccX a b) (k:=.code _::.mark _::_) rfl EW8_ok hI4.gc.xlt hfin (fun H hH hraw=>?_) (by kernel_rfl) _ a4 u4 hI4.fr
   refine hH.run 100 _ _ ?_
   dsimp only [go_sem]
   rw [Int.toNat_natCast]
   refine ⟨fun g=>?_,fun g=>?_⟩<;>simp only [decide_eq_true_eq,decide_eq_false_iff_not] at g
   ·have g:k<p.length:=by have g:(k:Int)<(p.length:Int):=g; omega
    have hzb:List.getD p k (zd bkT)=List.getD p k []:=rfl
    have hbm:=getD_mem (l:=p) [] g
    have htb:=take_get p k [] g
    rw [hzb]
    generalize List.getD p k []=x at *
    obtain ⟨hx1,hx2⟩:=hp2 x hbm
    have hx3:=hp3 x hbm
    have b2:(0:Int)<=(k:Int)/\(k:Int)<(p.length:Int):=by omega
    have hx1:List.length x<=100:=hx1
    refine ⟨b2,⟨Int.natCast_nonneg _,Int.le_refl _,by show (56:Int)*(List.length x:Int)<=140737488355328; omega⟩,?_⟩
    refine hraw _ _ ?_
    rw [Int.toNat_natCast]
    intro hok5 ρ5 a5 u5 hf5
    obtain ⟨v6,hI5⟩:=hI4.row6 hf5 (c:=2) (k:=List.length x) (by simp; exact .inr rfl) rfl (S:=fun v=>ccS3 a b b4 b6 i p k x v 0) fun v t y hy=>by
     have hy:=get?_mem hy
     simp only [ccS3,ccS2,ccS,List.mem_cons,Prod.mk.injEq,List.not_mem_nil,or_false] at hy
     rcases hy with ⟨rfl,rfl⟩|⟨rfl,rfl⟩|⟨rfl,rfl⟩|⟨rfl,rfl⟩|⟨rfl,rfl⟩|⟨rfl,rfl⟩|⟨rfl,rfl⟩|⟨rfl,rfl⟩|⟨rfl,rfl⟩|⟨rfl,rfl⟩|⟨rfl,rfl⟩|⟨rfl,rfl⟩<;>first|exact .inl ⟨rfl,.inl ⟨_,_,rfl⟩⟩|exact .inl ⟨rfl,.inr ⟨_,rfl⟩⟩|exact .inr ⟨rfl,rfl⟩
    have hmm0:(List.take 0 x).map (fun f=>qf (fq f))++List.replicate (List.length x-0) (false,[],[])=List.replicate (List.length x) ((false,[],[]):fT.den):=by simp
    rw [<-hmm0] at hI5
    refine floop (fun (m:Nat) a2 u2=>m<=List.length x/\∃ v4 v6,IC m1 b4 b6 w (ccS3 a b b4 b6 i p k x v6 m) v4 v6 (L++(List.take k p).map canB) ((List.take m x).map (fun f=>qf (fq f))++List.replicate (List.length x-m) (false,[],[])) a2 u2) (fun m=>List.length x-m) 0 ⟨Nat.zero_le _,_,_,hI5⟩ ?_
    rintro m a6 u6 ⟨hm,v4'',v6',hI6⟩
    rw [<-sem_mark]
    refine run_h (S:=ccX a b) (k:=.code _::.mark _::_) rfl EW8_ok hI6.gc.xlt hfin (fun H hH hraw=>?_) (by kernel_rfl) _ a6 u6 hI6.fr
    refine hH.run 100 _ _ ?_
    dsimp only [go_sem]
    rw [Int.toNat_natCast]
    refine ⟨fun q=>?_,fun q=>?_⟩<;>simp only [decide_eq_true_eq,decide_eq_false_iff_not] at q
    ·have q:m<List.length x:=by have q:(m:Int)<(List.length x:Int):=q; omega
     have b3:(0:Int)<=(m:Int)/\(m:Int)<(List.length x:Int):=by omega
     refine ⟨b3,hraw _ _ ?_⟩
     intro hok7 ρ7 a7 u7 hf7
     refine region_pre (pre:=[_,_,_]) (post:=[_,_,_]) (ann:=[]) EW8_ok hI6.gc.xlt rfl hf7 rfl trivial (by rfl) fun ρ8 a8 u8 hf8=>?_
     have hzf:List.getD x m (zd fT)=List.getD x m (false,[],[]):=rfl
     have hfm:=getD_mem (l:=x) (false,[],[]) q
     have htf:=take_get x m (false,[],[]) q
     have hst:=set_rep2 ((false,[],[]):fT.den) (List.map (fun f=>qf (fq f)) (List.take m x)) (qf (fq (List.getD x m (false,[],[])))) (List.length x-(m+1)) (i:=m) (by rw [List.length_map,len_take hm])
     rw [show List.length x-(m+1)+1=List.length x-m by omega] at hst
     have hlr:(List.map (fun f=>qf (fq f)) (List.take m x)++List.replicate (List.length x-m) ((false,[],[]):fT.den)).length=List.length x:=by
      rw [List.length_append,List.length_map,List.length_replicate,len_take hm]; omega
     have hI8:=hI6.seg hf8 (sl':=(61,.dat fT (List.getD x m (false,[],[])))::(60,.dat (.int .i64) (m:Int))::(59,.val v6')::ccS3 a b b4 b6 i p k x v6' m) fun t y hy=>by
      have hy:=get?_mem hy
      simp only [ccS3,ccS2,ccS,List.mem_cons,Prod.mk.injEq,List.not_mem_nil,or_false] at hy
      rcases hy with ⟨rfl,rfl⟩|⟨rfl,rfl⟩|⟨rfl,rfl⟩|⟨rfl,rfl⟩|⟨rfl,rfl⟩|⟨rfl,rfl⟩|⟨rfl,rfl⟩|⟨rfl,rfl⟩|⟨rfl,rfl⟩|⟨rfl,rfl⟩|⟨rfl,rfl⟩|⟨rfl,rfl⟩|⟨rfl,rfl⟩|⟨rfl,rfl⟩|⟨rfl,rfl⟩<;>first|exact ⟨rfl,.inl ⟨_,_,rfl⟩⟩|exact ⟨rfl,.inr ⟨_,rfl⟩⟩
     refine r16 hI8 hw (m:=m) rfl rfl rfl (Nat.le_trans (hx2 _ hfm) (by decide)) (by rw [hlr]; exact q) (sl':=ccS3 a b b4 b6 i p k x v6' m) (fun t y hy=>?_) fun a9 u9 hI9=>?_
     ·have hy:=get?_mem hy
      simp only [ccS3,ccS2,ccS,List.mem_cons,Prod.mk.injEq,List.not_mem_nil,or_false] at hy
      rcases hy with ⟨rfl,rfl⟩|⟨rfl,rfl⟩|⟨rfl,rfl⟩|⟨rfl,rfl⟩|⟨rfl,rfl⟩|⟨rfl,rfl⟩|⟨rfl,rfl⟩|⟨rfl,rfl⟩|⟨rfl,rfl⟩|⟨rfl,rfl⟩|⟨rfl,rfl⟩|⟨rfl,rfl⟩<;>exact ⟨rfl,by decide⟩
     ·rw [hst] at hI9
      refine run_h (S:=ccX a b) rfl EW8_ok hI9.gc.xlt hfin (fun H hH hraw=>?_) (by kernel_rfl) _ a9 u9 hI9.fr
      refine hH.run 100 _ _ ?_
      dsimp only [go_sem]
      refine ⟨by rw [inR_i64]; omega,hraw _ _ ?_⟩
      intro hok10 ρ10 a10 u10 hf10
      refine ⟨m+1,⟨q,v4'',v6',?_⟩,by omega⟩
      rw [htf,List.map_append]
      exact hI9.seg hf10 (sl':=ccS3 a b b4 b6 i p k x v6' (m+1)) fun t y hy=>by
       have hy:=get?_mem hy
       simp only [ccS3,ccS2,ccS,List.mem_cons,Prod.mk.injEq,List.not_mem_nil,or_false] at hy
       rcases hy with ⟨rfl,rfl⟩|⟨rfl,rfl⟩|⟨rfl,rfl⟩|⟨rfl,rfl⟩|⟨rfl,rfl⟩|⟨rfl,rfl⟩|⟨rfl,rfl⟩|⟨rfl,rfl⟩|⟨rfl,rfl⟩|⟨rfl,rfl⟩|⟨rfl,rfl⟩|⟨rfl,rfl⟩<;>first|exact ⟨rfl,.inl ⟨_,_,rfl⟩⟩|exact ⟨rfl,.inr ⟨_,rfl⟩⟩
    ·have hme:m=List.length x:=by have q:¬(m:Int)<(List.length x:Int):=q; omega
     have hcx:List.map (fun f=>qf (fq f)) (List.take m x)++List.replicate (List.length x-m) (false,[],[])=canB x:=by
      rw [hme,List.take_length,Nat.sub_self,List.replicate_zero,List.append_nil]; rfl
     rw [hcx] at hI6
     have hpl:p.length<=5000:=hp1
     refine hraw _ _ ?_
     intro hok7 ρ7 a7 u7 hf7
     have hI7:=hI6.seg hf7 (sl':=ccS3 a b b4 b6 i p k x v6' m) fun t y hy=>by
      have hy:=get?_mem hy
      simp only [ccS3,ccS2,ccS,List.mem_cons,Prod.mk.injEq,List.not_mem_nil,or_false] at hy
      rcases hy with ⟨rfl,rfl⟩|⟨rfl,rfl⟩|⟨rfl,rfl⟩|⟨rfl,rfl⟩|⟨rfl,rfl⟩|⟨rfl,rfl⟩|⟨rfl,rfl⟩|⟨rfl,rfl⟩|⟨rfl,rfl⟩|⟨rfl,rfl⟩|⟨rfl,rfl⟩|⟨rfl,rfl⟩<;>first|exact ⟨rfl,.inl ⟨_,_,rfl⟩⟩|exact ⟨rfl,.inr ⟨_,rfl⟩⟩
     refine wp_region_list ?_
     refine r18 hI7 hw rfl rfl ?_ (sl':=ccS2 a b b4 b6 i p k) (fun t y hy=>?_) fun v4a a9 u9 hI9=>?_
     ·rw [List.length_append,List.length_map] at hl1 ⊢
      have:(List.take k p).length<=p.length:=by rw [List.length_take]; omega
      omega
     ·have hy:=get?_mem hy
      simp only [ccS2,ccS,List.mem_cons,Prod.mk.injEq,List.not_mem_nil,or_false] at hy
      rcases hy with ⟨rfl,rfl⟩|⟨rfl,rfl⟩|⟨rfl,rfl⟩|⟨rfl,rfl⟩|⟨rfl,rfl⟩|⟨rfl,rfl⟩|⟨rfl,rfl⟩|⟨rfl,rfl⟩<;>exact ⟨rfl,by decide⟩
     ·refine run_h (S:=ccX a b) rfl EW8_ok hI9.gc.xlt hfin (fun H hH hraw=>?_) (by kernel_rfl) _ a9 u9 hI9.fr
      refine hH.run 100 _ _ ?_
      dsimp only [go_sem]
      refine ⟨by rw [inR_i64]; omega,hraw _ _ ?_⟩
      intro hok10 ρ10 a10 u10 hf10
      refine ⟨k+1,⟨g,v4a,?_⟩,by omega⟩
      rw [htb,List.map_append,List.map_singleton,<-List.append_assoc]
      exact hI9.seg hf10 (sl':=ccS2 a b b4 b6 i p (k+1)) fun t y hy=>by
       have hy:=get?_mem hy
       simp only [ccS3,ccS2,ccS,List.mem_cons,Prod.mk.injEq,List.not_mem_nil,or_false] at hy
       rcases hy with ⟨rfl,rfl⟩|⟨rfl,rfl⟩|⟨rfl,rfl⟩|⟨rfl,rfl⟩|⟨rfl,rfl⟩|⟨rfl,rfl⟩|⟨rfl,rfl⟩|⟨rfl,rfl⟩<;>first|exact ⟨rfl,.inl ⟨_,_,rfl⟩⟩|exact ⟨rfl,.inr ⟨_,rfl⟩⟩
   ·rw [List.take_of_length_le (by have g:¬(k:Int)<(p.length:Int):=g; omega)] at hI4
    refine ⟨by rw [inR_i64]; omega,hraw _ _ ?_⟩
    intro hok5 ρ5 a5 u5 hf5
    refine ⟨i+1,⟨e,v4',?_⟩,by omega⟩
    rw [htk2]
    exact hI4.seg hf5 (sl':=ccS a b b4 b6 (i+1)) fun t y hy=>by
     have hy:=get?_mem hy
     simp only [ccS3,ccS2,ccS,List.mem_cons,Prod.mk.injEq,List.not_mem_nil,or_false] at hy
     rcases hy with ⟨rfl,rfl⟩|⟨rfl,rfl⟩|⟨rfl,rfl⟩|⟨rfl,rfl⟩|⟨rfl,rfl⟩<;>first|exact ⟨rfl,.inl ⟨_,_,rfl⟩⟩|exact ⟨rfl,.inr ⟨_,rfl⟩⟩
  ·have hi2:i=2:=by have e:¬(i:Int)<2:=e; omega
   subst hi2
   have hC:(List.take 2 [a,b]).flatten.map canB=(a++b).map canB:=by simp
   rw [hC] at hI
   refine hraw _ _ ?_
   intro hok3 ρ3 a3 u3 hf3
   have hI3:=hI.seg hf3 (sl':=ccS a b b4 b6 2) fun t y hy=>by
    have hy:=get?_mem hy
    simp only [ccS3,ccS2,ccS,List.mem_cons,Prod.mk.injEq,List.not_mem_nil,or_false] at hy
    rcases hy with ⟨rfl,rfl⟩|⟨rfl,rfl⟩|⟨rfl,rfl⟩|⟨rfl,rfl⟩|⟨rfl,rfl⟩<;>first|exact ⟨rfl,.inl ⟨_,_,rfl⟩⟩|exact ⟨rfl,.inr ⟨_,rfl⟩⟩
   have e6:gt a3 6=.pointer (some ⟨b6,0,none⟩):=(List.cons.inj (hI3.sl 6 _ rfl)).1
   have e4:gt a3 4=.pointer (some ⟨b4,0,none⟩):=(List.cons.inj (hI3.sl 4 _ rfl)).1
   have hg:=hI3.gc
   have hsz:a3.tmps.size=75:=hI3.sz
   have hr4:=hg.r4.dat (Y:=fun b=>b<m1) (fun b hb=>.inl hb) fun b hb hY=>by have:=hg.g4 b hb; omega
   refine wp_region_list ?_
   refine wpF_ev (ρ:=roN b4 b6++[v4]) (X:=fun _=>False) (ck:=[(1,.box 25 (.cons (.own 3) .nil))]) (sl:=[(6,.ref 1 0)]) (an:=.no) (r:=.agg (.cons (.own 3) .nil)) EW8_ok ⟨fun b h=>h.elim,fun y hy=>?_⟩ rfl rfl (fun t ht x hx=>?_) rfl fun z7 u4 r4 q4=>?_
   ·have hy:y=(1,.box 25 (.cons (.own 3) .nil)):=by simpa using hy
    subst hy
    refine ⟨rfl,b6,_,rfl,hg.c6,⟨v4,[],rfl,⟨v4,rfl,hg.r4.rw.form,rfl⟩,rfl⟩,fun c hc=>?_⟩
    have hc:c=v4:=by simpa using hc
    rw [hc]; exact hg.r4.rw.form
   ·have ht:t=6:=by simpa [opL] using ht
    subst ht
    simp only [get?,Nat.beq_refl] at hx
    cases hx
    exact ⟨_,b6,rfl,rfl,congrArg (fun z=>[z]) e6⟩
   obtain ⟨us,n1,⟨z9,us2,n2,⟨z10,n3,_,n5⟩,n4⟩,-⟩:=r4
   have n4:us2=[]:=n4
   subst n4
   have n3:v4=z10:=Option.some.inj n3
   subst n3
   have n5:z9=v4:=(List.cons.inj n5).1
   subst n5
   subst n2
   have n1:=(List.cons.inj n1).1
   subst n1
   have gc4:=hg.keep q4
   have hfs:TyFact Try.prog 25 ⟨spT,0,24,1⟩:=EW8_ok.fact (E:=EW8) rfl
   have hst:=run_storeVar (P:=Try.prog) (w:=u4) hfs (off:=0) gc4.c4 (cs:=[z9]) rfl (fun c hc=>by rw [List.mem_singleton.1 hc]; exact gc4.r4.rw.form) (show 0+1<=1 by decide)
   refine wpF_store (off:=0) (u:=.agg #[z9]) rfl rfl rfl ?_ ?_ hst (wpF_assign rfl rfl (wpList_nil ?_))
   ·show gt (a3.put (some 74) _) 4=_
    rw [put_low (d:=74) (by decide),e4]
   ·exact gt_put_self (by rw [hsz]; decide) _
   have hrow:(#[Value.slice none 0 0].toList.take 0++[z9]++#[Value.slice none 0 0].toList.drop (0+Ty.size spT)).toArray=#[z9]:=rfl
   rw [show (TE.mk spT 0 24 1).ty=spT from rfl,hrow]
   have x1:=setRow_heap u4 b4 #[.slice none 0 0] #[z9] 25 (0,0) gc4.c4
   have x2:∀ k,k≠b4->(u4.setRow b4 #[z9]).heap[k]?=u4.heap[k]?:=fun k hk=>setRow_other u4 b4 k _ hk
   have x3:(u4.setRow b4 #[z9]).heap.size=u4.heap.size:=size_setRow _ _ _
   have x4:(u4.setRow b4 #[z9]).os=u4.os/\(u4.setRow b4 #[z9]).tape=u4.tape/\(u4.setRow b4 #[z9]).output=u4.output:=⟨rfl,rfl,rfl⟩
   generalize u4.setRow b4 #[z9]=u9 at x1 x2 x3 x4 ⊢
   refine wp_ret (sem_ret ?_)
   have hlt4:=gc4.lt4
   have h34:u3.heap.size<=u4.heap.size:=q4.size
   have hEv:Ev (fun b=>b<m1) u3 u9:=⟨by omega,fun k hk hn=>by
    rw [x2 k (fun e=>hn (by show k<m1; omega))]
    exact q4.block k hk⟩
   have hB:Below w.heap.size w u9:=by
    have hB:=hI3.bel.trans (q4.mono hI3.bel.size)
    exact ⟨x4.1.trans hB.os,x4.2.1.trans hB.tape,x4.2.2.trans hB.output,by rw [x3]; exact hB.size,fun k hk=>(x2 k (by omega)).trans (hB.block k hk)⟩
   have hz:mU w.heap.size u9 spT ((a++b).map canB) (.agg #[z9]):=⟨[z9],repU_anti (repU_st hr4 hEv) fun k hk=>.inl (by show k<m1; omega),rfl⟩
   have hF:Fr u9 (fun _=>False) [.slice none 0 0,.pointer (some ⟨b4,0,none⟩),z9] 75 ⟨[(4,.ref 1 0),(5,.dat (.int .i64) 0)],[(1,.box 25 (.cons (.own 2) .nil)),(2,.row 37 bkT ((a++b).map canB))],3⟩ [.slice none 0 0,.pointer (some ⟨b4,0,none⟩),z9] ((a3.put (some 74) (.agg #[z9])).put (some 5) (.int .i64 0)) u9:=by
    have hown:∀ b,blk z9=some b->b≠b4:=fun b hb=>by have:=gc4.g4 b hb; omega
    have hin:∀ i b,inC [Value.slice none 0 0,.pointer (some ⟨b4,0,none⟩),z9] i b->(i=1/\b=b4)∨(i=2/\blk z9=some b):=by
     intro i b hi
     match i,hi with
     | 0,hi=>exact (nil_inC (c:=0) hi).elim
     | 1,hi=>exact .inl ⟨rfl,by have hi:inV (.pointer (some ⟨b4,0,none⟩)) b:=hi; exact (Option.some.inj hi).symm⟩
     | 2,hi=>exact .inr ⟨rfl,gc4.r4.rw.inV hi⟩
     | i+3,hi=>exact (inC_none (by simp) hi).elim
    refine fr_mk (by rw [defers_put,defers_put]; exact hI3.dn) (by rw [size_put,size_put]; exact hsz) (fun b hb=>hb.elim) rfl (show [1,2].Nodup by decide) ?_ ?_ ?_ ?_ ?_ ?_
    ·intro x hx
     simp only [List.mem_cons,List.not_mem_nil,or_false] at hx
     rcases hx with rfl|rfl<;>(dsimp only; decide)
    ·intro x hx b hb
     rcases hin _ b hb with ⟨_,e⟩|⟨_,e⟩
     ·rw [e]; exact ⟨heap_lt x1,fun hx=>hx⟩
     ·exact ⟨by rw [x3]; exact gc4.r4.rw.lt e,fun hx=>hx⟩
    ·intro i b hb
     rcases hin i b hb with ⟨e,_⟩|⟨e,_⟩<;>subst e
     ·exact ⟨_,List.mem_cons_self,rfl⟩
     ·exact ⟨_,List.mem_cons_of_mem _ List.mem_cons_self,rfl⟩
    ·intro x hx y hy hne b h1 h2
     rcases hin _ b h1 with ⟨k1,f1⟩|⟨k1,f1⟩<;>rcases hin _ b h2 with ⟨k2,f2⟩|⟨k2,f2⟩
     ·exact hne (k1.trans k2.symm)
     ·exact hown b f2 f1
     ·exact hown b f1 f2
     ·exact hne (k1.trans k2.symm)
    ·intro x hx
     simp only [List.mem_cons,List.not_mem_nil,or_false] at hx
     rcases hx with rfl|rfl
     ·refine ⟨rfl,b4,_,rfl,x1,⟨z9,[],rfl,⟨z9,rfl,gc4.r4.rw.form,rfl⟩,rfl⟩,fun c hc=>?_⟩
      have hc:c=z9:=by simpa using hc
      rw [hc]; exact gc4.r4.rw.form
     ·obtain ⟨xs,t1,t2,t3⟩:=gc4.r4
      refine ⟨z9,xs,rfl,ownsRow_of t1 fun b hb=>x2 b (hown b hb),t2,fun i y hy=>?_⟩
      have:=(repU_st (repU_anti (t3 i y hy) (Y:=fun b=>b=b4∨blk z9=some b) fun k hk=>.inl (by
       rcases hk with hk|hk
       ·exact .inl (by omega)
       ·exact .inr (.inl hk))) (w':=u9) ⟨Nat.le_of_eq x3.symm,fun k _ hn=>x2 k fun e=>hn (.inl e)⟩).rep
      refine rep_anti this fun k hk=>.inl ?_
      rcases hk with hk|⟨x,hx,hk⟩
      ·exact hk.elim
      ·rcases hin _ k hk with ⟨_,e⟩|⟨_,e⟩
       ·exact .inl e
       ·exact .inr e
    ·intro t y hy
     have hy:=get?_mem hy
     simp only [List.mem_cons,Prod.mk.injEq,List.not_mem_nil,or_false] at hy
     rcases hy with ⟨rfl,rfl⟩|⟨rfl,rfl⟩
     ·refine ⟨_,b4,rfl,rfl,congrArg (fun z=>[z]) ?_⟩
      rw [gt_put_ne (by decide),put_low (d:=74) (by decide),e4]
     ·rw [gt_put_self (by rw [size_put,hsz]; decide)]
      exact ⟨_,⟨rfl,by rw [inR_i64]; decide⟩,rfl⟩
   obtain ⟨v,g2,us,t1,z,us2,t2,⟨ag,h1,⟨z0,us4,h2,⟨z1,h3,_,h5⟩,h4⟩,-⟩,z2,us3,t4,t5,t6⟩:=res_val (E:=EW8) (res:=[.cell 4 25,.tmp 5]) (fn:=Try.f8) (r:=.cons (.agg (.cons (.own 2) .nil)) (.cons (.dat (.int .i64) 0) .nil)) EW8_ok (fun b hb=>hb.elim) rfl hF rfl
   have t6:us3=[]:=t6
   subst t6
   have h4:us4=[]:=h4
   subst h4
   have h3:z9=z1:=Option.some.inj h3
   subst h3
   have h5:z0=z9:=(List.cons.inj h5).1
   subst h5
   subst h2
   have h1:=(List.cons.inj h1).1
   subst h1
   subst t4
   subst t2
   have t1:=(List.cons.inj t1).1
   have t5:=(m_int t5).1
   subst t5
   rw [<-hQ]
   exact ⟨by rw [defers_put,defers_put]; exact hI3.dn,v,g2,_,by rw [t1],hz,hB⟩
 obtain ⟨a0,ha0⟩:∃ a0:Act,({ tmps:=#[x,y]++Array.replicate ((Try.f8).ntmps-#[x,y].size) undef,defers:=[] }:Act)=a0:=⟨_,rfl⟩
 have k0:gt a0 0=x:=by rw [<-ha0]; exact gt_args (vs:=[x,y]) rfl
 have k1:gt a0 1=y:=by rw [<-ha0]; exact gt_args (vs:=[x,y]) rfl
 have kd:a0.defers=[]:=by rw [<-ha0]
 have ks:a0.tmps.size=75:=by
  rw [<-ha0]
  have:(Try.f8).ntmps=75:=rfl
  simp only [Array.size_append,List.size_toArray,Array.size_replicate,this,List.length_cons,List.length_nil]
 rw [ha0]
 refine key _ a0 w (fr_d kd ks fun t z hz=>?_)
 have hz:=get?_mem hz
 simp only [List.mem_cons,Prod.mk.injEq,List.not_mem_nil,or_false] at hz
 rcases hz with ⟨rfl,rfl⟩|⟨rfl,rfl⟩
 ·rw [k0]; exact hx
 ·rw [k1]; exact hy
end Go.Proofs.Ytbokoblnehgkaaa.Gx
