/-
  By hand between regions that the evaluator runs: the first operations of a region by the evaluator, a base of one's own.
-/
import Derived.Test.YtjbnlmamealdgaaMGc
namespace Go.Proofs.Ytjbnlmamealdgaa.Gx
open Go Go.RowKit Tw
set_option linter.unusedVariables false
set_option linter.unusedSimpArgs false
set_option maxHeartbeats 4000000
set_option maxRecDepth 20000
section
variable {E:Env} {w0 w1 w2:World} {X0 X1:Nat->Prop} {Bo:List Value} {N:Nat} {st st':St} {ρ:List Value} {a:Act} {w w':World} {Q:Exit->Act->World->Prop} {P:Program} {ps:List Prop}
theorem pre_ok (hE:E.Ok) (hX0:∀ b,X0 b->b<w0.heap.size) {ops:Array Oper} {ds:List (Option Nat)} (hds:∀ g:Nat,nthO ds g=(ops[g]?).map Oper.dst) {ann:List (Nat×An)} {r:List Oper} :
    ∀ {l:List Oper} {st st':St} {ρ:List Value} {a:Act} {w:World} {ps0 ps:List Prop},Fr w0 X0 Bo N st ρ a w->evOps E ann ds l st ps0=some (st',ps)->AllP ps->(∀ o∈l,okOper N o=true) ->
     (∀ ρ' a' w',Fr w0 X0 Bo N st' ρ' a' w'->wpList E.P ops Q r a' w')->wpList E.P ops Q (l++r) a w
 | [],st,st',ρ,a,w,ps0,ps,h,he,hp,hok,hQ=>by cases he; exact hQ _ _ _ h
 | o::l,st,st',ρ,a,w,ps0,ps,h,he,hp,hok,hQ=>by
  simp only [evOps] at he
  split at he
  ·rename_i st1 qs e
   obtain ⟨k,hk⟩:=evOps_pre he
   have hq:AllP qs:=by rw [hk] at hp; exact hp.app.1.app.2
   refine wpList_step fun K hK=>?_
   exact evOp_ok hE h hX0 hds (hok o List.mem_cons_self) e hq fun ρ' a' w' h'=>hK _ _ (pre_ok hE hX0 hds h' he hp (fun o ho=>hok o (List.mem_cons_of_mem _ ho)) hQ)
  ·cases he
def evL (E:Env) (an:List (Nat×An)) (ds:List (Option Nat)):List Oper->St->List Prop->Option (St×List Prop)
 | [],st,ps=>some (st,ps)
 | o::l,st,ps=>match ev1 E st.sl st.ck ds o (anO an o) with
  | some (r,qs)=>evL E an ds l ⟨put st.sl o.dst r,st.ck,st.nx⟩ (ps++qs)
  | none=>none
theorem evL_pre {ann:List (Nat×An)} {ds:List (Option Nat)}:∀ {l:List Oper} {st st':St} {ps0 ps:List Prop},evL E ann ds l st ps0=some (st',ps)->∃ k,ps=ps0++k
 | [],st,st',ps0,ps,h=>by cases h; exact ⟨[],by simp⟩
 | o::l,st,st',ps0,ps,h=>by
  simp only [evL] at h
  split at h
  ·rename_i r qs e
   obtain ⟨k,hk⟩:=evL_pre h
   exact ⟨qs++k,by rw [hk,List.append_assoc]⟩
  ·cases h
theorem preL_ok (hE:E.Ok) (hX0:∀ b,X0 b->b<w0.heap.size) {ops:Array Oper} {ds:List (Option Nat)} (hds:∀ g:Nat,nthO ds g=(ops[g]?).map Oper.dst) {ann:List (Nat×An)} {r:List Oper} :
    ∀ {l:List Oper} {st st':St} {a:Act} {w:World} {ps0 ps:List Prop},Fr w0 X0 Bo N st ρ a w->evL E ann ds l st ps0=some (st',ps)->AllP ps->(∀ o∈l,okOper N o=true) ->
     (∀ a' w',Fr w0 X0 Bo N st' ρ a' w'->Below w.heap.size w w'->wpList E.P ops Q r a' w')->wpList E.P ops Q (l++r) a w
 | [],st,st',a,w,ps0,ps,h,he,hp,hok,hQ=>by cases he; exact hQ _ _ h (Below.refl _ _)
 | o::l,st,st',a,w,ps0,ps,h,he,hp,hok,hQ=>by
  simp only [evL] at he
  split at he
  ·rename_i r' qs e
   obtain ⟨k,hk⟩:=evL_pre he
   have hq:AllP qs:=by rw [hk] at hp; exact hp.app.1.app.2
   refine wpList_step fun K hK=>?_
   have hoo:=hok o List.mem_cons_self
   obtain ⟨h1,h2⟩:=ev1_ok (a:=a) hE (h.wd hX0) hds (okOper_o hoo) (fun t _ x hx=>h.sl t x hx) (fun g w' _ t _ x hx=>h.sl t x hx) e hq
   by_cases hg:gok ops o a
   ·rw [if_pos (wanted_iff.2 hg)]
    exact (h1 hg).wp fun v w' ⟨q1,q2⟩=>hK _ _ (preL_ok hE hX0 hds (h.pure hX0 q2 (okOper_d hoo) q1) he hp (fun o ho=>hok o (List.mem_cons_of_mem _ ho)) fun a' w'' h' hb=>hQ _ _ h' (q2.trans (hb.mono q2.size)))
   ·rw [if_neg (fun e=>hg (wanted_iff.1 e))]
    exact hK _ _ (preL_ok hE hX0 hds (h.pure hX0 (Below.refl _ _) (okOper_d hoo) (h2 hg)) he hp (fun o ho=>hok o (List.mem_cons_of_mem _ ho)) hQ)
  ·cases he
theorem Fr.base (h:Fr w0 X0 Bo N st ρ a w) (hX0:∀ b,X0 b->b<w0.heap.size) (hb:Below w.heap.size w w2) (hX:∀ b,X1 b->X0 b∨w.heap.size<=b):Fr w2 X1 (mkB ρ st.ck) N st ρ a w2:=by
 have hXX:∀ b,XX X1 ρ st.ck b->XX X0 ρ st.ck b∨w.heap.size<=b:=by
  rintro b (hb|hb)
  ·rcases hX b hb with h'|h'
   ·exact .inl (.inl h')
   ·exact .inr h'
  ·exact .inl (.inr hb)
 refine ⟨h.dn,h.sz,Kept.refl w2,h.nx,h.nd,h.kn,fun x hx b hc=>⟨Nat.lt_of_lt_of_le (h.bl x hx b hc).1 hb.size,.inr (mk_mem hx hc)⟩,h.dj,fun x hx=>?_,fun t x hx=>?_,⟨fun b hc=>?_,?_,fun x hx T l e hl=>(mk_in hx).symm⟩⟩
 ·exact cm_tr (h.cs x hx) hXX (Ev.of_below hb) fun b e=>hb.block b (h.bl x hx b e).1
 ·exact m_st (Ev.of_below hb) (m_anti hXX (h.sl t x hx))
 ·obtain ⟨x,hx,e⟩:=mk_blk hc
  have hl:=h.bl x hx b e
  refine ⟨Nat.lt_of_lt_of_le hl.1 hb.size,fun h1=>?_⟩
  rcases hX b h1 with h'|h'
  ·rcases hl.2 with h3|h3
   ·exact absurd (hX0 b h') (by omega)
   ·exact (h.pn.bo b h3).2 h'
  ·omega
 ·rw [mk_len]; exact Nat.le_of_eq h.nx
theorem fr_fresh {sl:List (Nat×AV)} (hd:a.defers=[]) (hs:a.tmps.size=N) (hsl:∀ t x,get? sl t=some x->m [] X1 w x [gt a t]):Fr w X1 [] N ⟨sl,[],0⟩ [] a w:=by
 have hXX:∀ b,XX X1 [] [] b->X1 b:=by
  rintro b (hb|⟨x,hx,_⟩)
  ·exact hb
  ·cases hx
 refine ⟨hd,hs,Kept.refl w,rfl,List.nodup_nil,(fun x hx=>by cases hx),(fun x hx=>by cases hx),(fun x hx=>by cases hx),(fun x hx=>by cases hx),fun t x hx=>m_anti (fun b hb=>.inl (hXX b hb)) (hsl t x hx),⟨fun b hb=>(inB_nil hb).elim,Nat.zero_le _,fun x hx=>by cases hx⟩⟩
theorem run_h {S:Sx} (hnb:S.nb=Bo.length) (hE:S.E.Ok) (hX0:∀ b,X0 b->b<w0.heap.size) (hfin:∀ st ρ a w,finP S st->Fr w0 X0 Bo S.N st ρ a w->Q .ret a w/\Q .normal a w) {k:List It} {st:St}
    (h:∀ H,HOk S H->(∀ k st,(okK S.an S.N k=true->∀ ρ a w,Fr w0 X0 Bo S.N st ρ a w->sem S.E.P Q k .normal a w)->H k st)->H k st):okK S.an S.N k=true->∀ ρ a w,Fr w0 X0 Bo S.N st ρ a w->sem S.E.P Q k .normal a w :=
 h (Hs S.an S.E w0 X0 Bo S.N Q) (hs_ok hnb hE hX0 hfin) fun _ _ h=>h
end
end Go.Proofs.Ytjbnlmamealdgaa.Gx
