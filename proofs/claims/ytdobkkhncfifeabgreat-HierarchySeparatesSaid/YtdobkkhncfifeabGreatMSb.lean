/-
  MSb: S6 S7 S8 S9 in one text.
-/
import Derived.Test.YtdobkkhncfifeabGreatMSa
import Derived.Test.YtdobkkhncfifeabGreatMHc
namespace Go.Proofs.YtdobkkhncfifeabGreat.Gx
open Go Go.RowKit Tw
set_option linter.unusedVariables false
set_option linter.unusedSimpArgs false
set_option maxHeartbeats 4000000
set_option maxRecDepth 20000
def nwO (t:Nat) (o:Oper):Bool:=match o.dst with|some d=>!Nat.beq d t|none=>true
def nwC (t:Nat) (an:List (Nat×List (Nat×An))):Code->Bool
 | .region id l draw=>l.toList.all (nwO t)&&(!draw||(mxOf (rAn an id)).isSome)
 | .seq a b=>nwC t an a&&nwC t an b
 | .cond _ a b=>nwC t an a&&nwC t an b
 | .block _ c=>nwC t an c
 | .loop c=>nwC t an c
 | _=>true
def nwK (t:Nat) (an:List (Nat×List (Nat×An))):List It->Bool
 | []=>true
 | .code c::k=>nwC t an c&&nwK t an k
 | _::k=>nwK t an k
theorem nwO_ne {t:Nat} {o:Oper} (h:nwO t o=true):o.dst≠some t:=by
 unfold nwO at h
 intro e
 rw [e] at h
 simp at h
theorem nwK_pop {t:Nat} {an:List (Nat×List (Nat×An))} {id:Nat}:∀ {k k':List It},popTo id k=some k'->nwK t an k=true->nwK t an k'=true
 | .blk j::k,k',h,hs=>by
  simp only [popTo] at h
  split at h
  ·cases h; exact hs
  ·exact nwK_pop (k:=k) h hs
 | .code c::k,k',h,hs=>by
  simp only [popTo] at h
  simp only [nwK,Bool.and_eq_true] at hs
  exact nwK_pop (k:=k) h hs.2
 | .mark R::k,k',h,hs=>by
  simp only [popTo] at h
  exact nwK_pop (k:=k) h hs
theorem puts_nw {t:Nat} {vv:Nat->Value}:∀ {l:List Oper} {a:Act} {k:Nat},(∀ o∈l,nwO t o=true)->gt (puts a l vv k) t=gt a t
 | [],a,k,_=>rfl
 | o::l,a,k,h=>by
  unfold puts
  rw [puts_nw fun o ho=>h o (List.mem_cons_of_mem _ ho),gt_put_ne (nwO_ne (h o List.mem_cons_self))]
section
variable {E:Env} {w0:World} {X0:Nat->Prop} {Bo:List Value} {N:Nat} {st st':St} {ρ:List Value} {a:Act} {w w':World} {Q:Exit->Act->World->Prop} {P:Program}
theorem upon_nw {o:Oper} {t:Nat} {v:Value} {K K':Act->World->Prop} {Q Q':Exit->Act->World->Prop} (ho:nwO t o=true) (hv:gt a t=v) (hK:∀ a w,K a w->gt a t=v->K' a w) (hQ:∀ e a w,e≠.normal->Q e a w->Q' e a w):∀ {r:Result Next},o.upon P a K Q r->o.upon P a K' Q' r
 | .ok (.value x) w',h=>hK _ _ h (by rw [gt_put_ne (nwO_ne ho),hv])
 | .ok .skip w',h=>hK _ _ h (by rw [gt_put_ne (nwO_ne ho),hv])
 | .ok (.defer d) w',h=>hK _ _ h (by rw [gt_put_ne (nwO_ne ho)]; exact hv)
 | .ok (.enter f args) w',h=>Calls.mono h fun e w'' h=>by
  cases e with
  | returned x=>exact hK _ _ h (by rw [gt_put_ne (nwO_ne ho),hv])
  | panicked c=>exact hQ _ _ _ (by simp) h
  | outgrown=>obtain ⟨a2,w2,h⟩:=h; exact ⟨a2,w2,hQ _ _ _ (by simp) h⟩
 | .ok (.row r args) w',h=>Rows.mono h fun x w'' h=>hK _ _ h (by rw [gt_put_ne (nwO_ne ho),hv])
 | .halt (.panic x) w',h=>hQ _ _ _ (by simp) h
theorem wpList_nw {t:Nat} {v:Value} {ops:Array Oper} {Q Q':Exit->Act->World->Prop} (hQ:∀ e a w,e≠.normal->Q e a w->Q' e a w) (hN:∀ a w,Q .normal a w->gt a t=v->Q' .normal a w) :
    ∀ {l:List Oper} {a:Act} {w:World},(∀ o∈l,nwO t o=true)->gt a t=v->wpList P ops Q l a w->wpList P ops Q' l a w
 | [],a,w,hl,hv,h=>hN a w h hv
 | o::l,a,w,hl,hv,h=>by
  have ho:=hl o List.mem_cons_self
  have ih:∀ a w,wpList P ops Q l a w->gt a t=v->wpList P ops Q' l a w:=fun a w h hv=>wpList_nw hQ hN (fun o ho=>hl o (List.mem_cons_of_mem _ ho)) hv h
  unfold wpList at h ⊢
  split at h
  ·rename_i hw
   rw [if_pos hw]
   rcases h with h|⟨h1,a2,w2,h2⟩
   ·exact .inl (upon_nw ho hv ih hQ h)
   ·exact .inr ⟨h1,a2,w2,hQ _ _ _ (by simp) h2⟩
  ·rename_i hw
   rw [if_neg hw]
   exact ih _ _ h (by rw [gt_put_ne (nwO_ne ho),hv])
def HsK (an:List (Nat×List (Nat×An))) (E:Env) (w0:World) (X0:Nat->Prop) (Bo:List Value) (N:Nat) (Q:Exit->Act->World->Prop) (t:Nat) (v:Value) (k:List It) (st:St):Prop :=
 okK an N k=true->nwK t an k=true->∀ ρ a w,Fr w0 X0 Bo N st ρ a w->gt a t=v->sem E.P Q k .normal a w
theorem run_okK {S:Sx} {t:Nat} {v:Value} (hE:S.E.Ok) (hX0:∀ b,X0 b->b<w0.heap.size) (hfin:∀ st ρ a w,finP S st->Fr w0 X0 Bo S.N st ρ a w->gt a t=v->Q .ret a w/\Q .normal a w) :
    ∀ (n:Nat) (k:List It) (st:St),run S (HsK S.an S.E w0 X0 Bo S.N Q t v) n k st->HsK S.an S.E w0 X0 Bo S.N Q t v k st
 | 0,k,st,h=>h
 | n+1,[],st,h=>fun _ _ ρ a w hf hv=>(hfin st ρ a w h hf hv).2
 | n+1,.blk id::k,st,h=>by
  intro hok hnw ρ a w hf hgv
  rw [sem_blk]
  exact run_okK hE hX0 hfin n k st h hok hnw ρ a w hf hgv
 | n+1,.mark R::k,st,h=>h
 | n+1,.code c::k,st,h=>by
  cases c with
  | skip =>
   intro hok hnw ρ a w hf hgv
   simp only [okK,okC,Bool.true_and] at hok
   simp only [nwK,nwC,Bool.true_and] at hnw
   exact wp_skip (run_okK hE hX0 hfin n k st h hok hnw ρ a w hf hgv)
  | seq x y =>
   intro hok hnw ρ a w hf hgv
   simp only [okK,okC,Bool.and_eq_true] at hok
   simp only [nwK,nwC,Bool.and_eq_true] at hnw
   have:=run_okK hE hX0 hfin n (.code x::.code y::k) st h (by simp [okK,hok]) (by simp [nwK,hnw]) ρ a w hf hgv
   refine wp_seq ?_
   rw [<-sem_seq]
   exact this
  | region id l draw =>
   simp only [run] at h
   split at h
   ·exact h
   ·split at h
    ·rename_i st' ps e
     have h:=andP_ok h
     intro hok hnw ρ a w hf hgv
     simp only [okK,okC,Bool.and_eq_true,Bool.or_eq_true] at hok
     obtain ⟨⟨hall,hdr⟩,hokk⟩:=hok
     simp only [nwK,nwC,Bool.and_eq_true,Bool.or_eq_true] at hnw
     obtain ⟨⟨hnall,hndr⟩,hnkk⟩:=hnw
     have hnops:∀ o∈l.toList,nwO t o=true:=fun o ho=>List.all_eq_true.1 hnall o ho
     have hops:∀ o∈l.toList,okOper S.N o=true:=fun o ho=>List.all_eq_true.1 hall o ho
     have hf':=frz_ok hX0 (cs:=rFz S.fz id) hf
     have hnext:∀ ρ' a' w',Fr w0 X0 Bo S.N st' ρ' a' w'->gt a' t=v->sem S.E.P Q k .normal a' w':=fun ρ' a' w' hf' hv'=>run_okK hE hX0 hfin n k st' h.2 hokk hnkk ρ' a' w' hf' hv'
     show (Code.region id l draw).wp S.E.P (sem S.E.P Q k) a w
     cases draw with
     | false =>
      refine wp_region_list ?_
      have:=seq_ok (Q:=fun e a' w'=>∃ ρ',e=.normal/\Fr w0 X0 Bo S.N st' ρ' a' w') (ops:=l.toList.toArray) hE hX0 (dsts_ok l.toList) hf' e h.1 hops (fun ρ' a' w' hf'=>⟨ρ',rfl,hf'⟩)
      have:=wpList_nw (Q':=sem S.E.P Q k) (fun e a w hne ⟨ρ',he,_⟩=>absurd he hne) (fun a' w' ⟨ρ',_,hf2⟩ hv'=>hnext ρ' a' w' hf2 hv') hnops hgv this
      simpa using this
     | true =>
      have hdr:=hdr.resolve_left (by simp)
      have hndr:=hndr.resolve_left (by simp)
      dsimp only [evRe] at e
      split at e
      ·rename_i fl hfl
       rw [hfl] at hdr
       split at e
       ·cases e
       rename_i hh
       have hdr:(handF fl||mixB (rAn S.an id) S.N l.toList fl)=true:=hdr
       rw [hh,Bool.false_or] at hdr
       have:=mix_okK (Q:=sem S.E.P Q k) (id:=id) hE hX0 hdr hf' e h.1 hops fun ρ' vv w' hf2=>hnext ρ' _ w' hf2 (by rw [puts_nw hnops,hgv])
       simpa using this
      ·rename_i hfl
       rw [hfl] at hndr
       cases hndr
    ·exact h
  | cond c x y =>
   simp only [run] at h
   split at h
   ·rename_i v e
    split at h
    ·split at h
     ·intro hok hnw ρ a w hf hgv
      simp only [okK,okC,Bool.and_eq_true] at hok
      simp only [nwK,nwC,Bool.and_eq_true] at hnw
      have hv:m ρ (XX X0 ρ st.ck) w _ [a.eval c]:=lk_ok' hf hok.1.1.1 e
      exact wp_cond_true (List.cons.inj hv).1 (run_okK hE hX0 hfin n (.code x::k) st h (by simp [okK,hok]) (by simp [nwK,hnw]) ρ a w hf hgv)
     ·intro hok hnw ρ a w hf hgv
      simp only [okK,okC,Bool.and_eq_true] at hok
      simp only [nwK,nwC,Bool.and_eq_true] at hnw
      have hv:m ρ (XX X0 ρ st.ck) w _ [a.eval c]:=lk_ok' hf hok.1.1.1 e
      exact wp_cond_false (List.cons.inj hv).1 (run_okK hE hX0 hfin n (.code y::k) st h (by simp [okK,hok]) (by simp [nwK,hnw]) ρ a w hf hgv)
    ·split at h
     ·rename_i b e2
      intro hok hnw ρ a w hf hgv
      simp only [okK,okC,Bool.and_eq_true] at hok
      simp only [nwK,nwC,Bool.and_eq_true] at hnw
      have hv:=lk_ok' hf hok.1.1.1 e
      have hv':m ρ (XX X0 ρ st.ck) w (.dat .bool b) [a.eval c]:=castD_elim e2 (fun t d=>m ρ (XX X0 ρ st.ck) w (.dat t d) [a.eval c]) hv
      exact wp_cond_split (m_bool hv') (fun hb=>run_okK hE hX0 hfin n (.code x::k) st (h.1 hb) (by simp [okK,hok]) (by simp [nwK,hnw]) ρ a w hf hgv) (fun hb=>run_okK hE hX0 hfin n (.code y::k) st (h.2 hb) (by simp [okK,hok]) (by simp [nwK,hnw]) ρ a w hf hgv)
     ·exact h
    ·intro hok hnw ρ a w hf hgv
     simp only [okK,okC,Bool.and_eq_true] at hok
     simp only [nwK,nwC,Bool.and_eq_true] at hnw
     obtain ⟨b,hv,hb⟩:=lk_ok' hf hok.1.1.1 e
     exact wp_cond_split (List.cons.inj hv).1 (fun hb'=>run_okK hE hX0 hfin n (.code x::k) st (h.1 (hb hb')) (by simp [okK,hok]) (by simp [nwK,hnw]) ρ a w hf hgv) (fun _=>run_okK hE hX0 hfin n (.code y::k) st h.2 (by simp [okK,hok]) (by simp [nwK,hnw]) ρ a w hf hgv)
    ·exact h
   ·exact h
  | block id c =>
   intro hok hnw ρ a w hf hgv
   simp only [okK,okC,Bool.and_eq_true] at hok
   simp only [nwK,nwC,Bool.and_eq_true] at hnw
   have:=run_okK hE hX0 hfin n (.code c::.blk id::k) st h (by simp [okK,hok]) (by simp [nwK,hnw]) ρ a w hf hgv
   refine wp_block ?_
   rw [<-sem_blk]
   exact this
  | exit id =>
   simp only [run] at h
   split at h
   ·rename_i k' e
    intro hok hnw ρ a w hf hgv
    simp only [okK,okC,Bool.true_and] at hok
    simp only [nwK,nwC,Bool.true_and] at hnw
    exact wp_exit (sem_pop e (run_okK hE hX0 hfin n k' st h (okK_pop e hok) (nwK_pop e hnw) ρ a w hf hgv))
   ·exact h.elim
  | ret=>exact fun _ _ ρ a w hf hv=>wp_ret (sem_ret (hfin st ρ a w h hf hv).1)
  | loop c=>exact h
  | rangeFunc _ _ _ _=>exact h
  | scope _=>exact h
  | label _=>exact h
  | goto _=>exact h
  | refuse _=>exact h
where lk_ok' {S:Sx} {w0:World} {X0:Nat->Prop} {Bo:List Value} {st:St} {ρ:List Value} {a:Act} {w:World} {c:Operand} {v:AV} (hf:Fr w0 X0 Bo S.N st ρ a w) (ho:okO c=true) (h:lk st.sl c=some v):m ρ (XX X0 ρ st.ck) w v [a.eval c] :=
    lk_ok hf.sl ho h
structure HKOk (S:Sx) (H:List It->St->Prop):Prop where
 run:∀ n k st,run S H n k st->H k st
 go:∀ l n k st,Gx.run { S with stop:=l } H n k st->H k st
 loop:∀ {c:Code} {k:List It} {st:St} {α:Type} (inv:α->St) (I:α->Prop) (μ:α->Nat) (x0:α) (n:Nat),I x0->leS S.nb st (inv x0) n ->
  (∀ x,I x->∀ R:Act->World->Prop,(∀ st' y n',I y->μ y<μ x->leS S.nb st' (inv y) n'->H (.mark R::k) st')->H (.code c::.mark R::k) (inv x))->H (.code (.loop c)::k) st
 weak:∀ {k:List It} {st:St} (st':St) (n:Nat),leS S.nb st st' n->H k st'->H k st
theorem hsK_ok {S:Sx} {t:Nat} {v:Value} (hnb:S.nb=Bo.length) (hE:S.E.Ok) (hX0:∀ b,X0 b->b<w0.heap.size) (hfin:∀ st ρ a w,finP S st->Fr w0 X0 Bo S.N st ρ a w->gt a t=v->Q .ret a w/\Q .normal a w):HKOk S (HsK S.an S.E w0 X0 Bo S.N Q t v) where
 run:=run_okK hE hX0 hfin
 go:=fun l=>run_okK (S:={ S with stop:=l }) hE hX0 hfin
 weak:=by
  intro k st st' n hle h hok hnw ρ a w hf hgv
  obtain ⟨ρ0,hf0⟩:=leS_ok hf hX0 (by rw [<-hnb]; exact hle)
  exact h hok hnw ρ0 a w hf0 hgv
 loop:=by
  intro c k st α inv I μ x0 n h0 hle hb hok hnw ρ a w hf hgv
  simp only [okK,okC,Bool.and_eq_true] at hok
  simp only [nwK,nwC,Bool.and_eq_true] at hnw
  obtain ⟨ρ0,hf0⟩:=leS_ok hf hX0 (by rw [<-hnb]; exact hle)
  refine floop (fun x a w=>(I x/\gt a t=v)/\∃ ρ,Fr w0 X0 Bo S.N (inv x) ρ a w) μ x0 ⟨⟨h0,hgv⟩,ρ0,hf0⟩ ?_
  rintro x a w ⟨⟨hx,hgv⟩,ρ,hf⟩
  have:=hb x hx (fun a' w'=>∃ y,((I y/\gt a' t=v)/\∃ ρ,Fr w0 X0 Bo S.N (inv y) ρ a' w')/\μ y<μ x) (fun st' y n' hy hμ hle'=>fun _ _ ρ' a' w' hf' hv'=>by
   obtain ⟨ρ2,hf2⟩:=leS_ok hf' hX0 (by rw [<-hnb]; exact hle')
   exact ⟨y,⟨⟨hy,hv'⟩,ρ2,hf2⟩,hμ⟩) (by simp [okK,hok]) (by simp [nwK,hnw]) ρ a w hf hgv
  rw [<-sem_mark]
  exact this
end
end Go.Proofs.YtdobkkhncfifeabGreat.Gx
namespace Go.Proofs.YtdobkkhncfifeabGreat.Gx
open Go Go.RowKit Tw B Nt
set_option linter.unusedVariables false
set_option linter.unusedSimpArgs false
set_option maxHeartbeats 4000000
set_option maxRecDepth 20000
section
variable {E:Env} {w0 w1 w2 u:World} {X0 X1:Nat->Prop} {Bo:List Value} {N:Nat} {st st':St} {ρ:List Value} {a:Act} {w w':World} {Q:Exit->Act->World->Prop} {P:Program} {v v':Value} {A A2:List (Nat×CT)} {Te:TypeId} {l:List Str} {x:Str}
theorem run_append_k {T ty e:TypeId} {te:TE} {B n m cap:Nat} {v:Value} {ad:Addr} {xs news:List Value} (hu:P.underlying T=some (.slice e)) (hf:TyFact P e te) (hB:B<=w.heap.size) (hpos:0<te.ty.size) (ho:w.ownsRow B e te.ty.size v n xs) (hl:news.length=m*te.ty.size) (h1:∀ c∈news,c.oneCell'=true)
    (hc:∀ (j:Nat) (c:Value),news[j]?=some c->w.cell? (ad.add j)=some c) (hm:0<m) (hn:n+m<=maxLen) (hby:(n+m)*te.bytes<=140737488355328) :
    ∃ v' w',(Builtin.append_ #[T,T] ty #[v,.slice (some ad) m cap]).run P w=.ok v' w'/\w'.ownsRow B e te.ty.size v' (n+m) (xs++news)/\w.grownBy w' v.ownBlock /\
     ((∃ g cp,v=.slice (some ⟨g,0,none⟩) n cp/\v'=.slice (some ⟨g,0,none⟩) (n+m) cp)∨((∀ b,blk v'=some b->w.heap.size<=b)/\∀ b,b<w.heap.size->w'.heap[b]?=w.heap[b]?)):=by
 obtain ⟨i,hi,hz,hs,hb⟩:=hf.info
 obtain ⟨v',w',q1,q2,q3,q4⟩:=run_append_own (P:=P) w B T ty e i _ te.ty.size te.bytes hu hi hz hs hb (by rw [wrap_cells (zc_len _) (zc_one _)]; simp [zc_len]) hpos v n xs ho ad m cap news hl hc h1 hn hby hB
 refine ⟨v',w',q1,q2,q3,?_⟩
 rcases ho.2 with ⟨rfl,rfl⟩|⟨g,cp,cur,rfl,_,hg,hnc,hcm,hcs,_⟩
 ·have hr:=run_append_nil (P:=P) w T ty e i _ hu hi hz ad m cap news (by rw [hs]; exact hl) hc hm (by simp only [maxLen] at hn; omega) (by rw [hb]; simp only [Nat.zero_add] at hby; omega)
  refine .inr ⟨?_,fun b hb=>q3.block b hb (by intro h; cases h)⟩
  rw [hr] at q1
  cases q1
  intro b hb
  cases hb
  exact Nat.le_refl _
 ·by_cases hroom:n+m<=cp
  ·have hr:=run_append_room (P:=P) w T ty e i hu hi g n cp cur hg ad m cap news (by rw [hs]; exact hl) hc h1 hroom (by rw [hs,hl,hcs,<-Nat.add_mul]; exact Nat.mul_le_mul_right _ hroom)
   rw [hr] at q1
   cases q1
   exact .inl ⟨g,cp,rfl,rfl⟩
  ·have holds:∀ (j:Nat) (u:Value),xs[j]?=some u->w.cell? ((⟨g,0,none⟩:Addr).add j)=some u:=ho.cells (g:=g) rfl
   have hr:=run_append_grow (P:=P) w T ty e i _ hu hi hz ⟨g,0,none⟩ n cp xs (by rw [hs]; exact ho.1) holds ad m cap news (by rw [hs]; exact hl) hc (by omega) (by simp only [maxLen] at hn; omega) (growslice_fits (by omega) (by rw [hb]; exact hby))
   rw [hr] at q1
   cases q1
   refine .inr ⟨fun b hb=>?_,fun b hb=>?_⟩
   ·cases hb; exact Nat.le_refl _
   ·exact ((Below.refl w.heap.size w).drew.alloc (Nat.le_refl _) _).block b hb
def okc (ct:CT):Prop:=(∃ T l,ct=.box T l/\staleA 5 l=l)∨∃ T t l,ct=.row T t l
theorem cm_set {ct:CT} (hok:okc ct) {c:Nat} (hc:c≠5) (v:Value) {X:Nat->Prop} (h:cm 0 ρ X w c ct):cm 0 (ρ.set 5 v) X w c ct:=by
 rcases hok with ⟨T,l,rfl,hs⟩|⟨T,t,l,rfl⟩
 ·obtain ⟨g1,b,cs,g2,g3,g4,g5⟩:=h
  refine ⟨g1,b,cs,by rw [List.getElem?_set_ne (Ne.symm hc)]; exact g2,g3,?_,g5⟩
  rw [<-hs]
  exact m_stale v g4
 ·obtain ⟨v0,xs,g1,g2⟩:=h
  exact ⟨v0,xs,by rw [List.getElem?_set_ne (Ne.symm hc)]; exact g1,g2⟩
theorem inC_set {c:Nat} (hc:c≠5) (v:Value):inC (ρ.set 5 v) c=inC ρ c:=by
 unfold inC
 rw [List.getElem?_set_ne (Ne.symm hc)]
theorem str_part {X Y:Nat->Prop} {w w':World} {cs:List Value} {s:Str} (h:rep .str X w cs s):rep .str Y w' cs s:=h
structure Gw (w u:World) (Te:TypeId) (v v':Value) (l:List Str) (x:Str):Prop where
 gr:w.grownBy u (blk v)
 own:∃ ys,u.ownsRow 0 Te 1 v' (l++[x]).length ys/\(∀ c∈ys,c.oneCell'=true)/\∀ (i:Nat) (s:Str),(l++[x])[i]?=some s->rep .str (fun _=>False) u ((ys.drop (i*1)).take 1) s
 mv:(∃ g cp,v=.slice (some ⟨g,0,none⟩) l.length cp/\v'=.slice (some ⟨g,0,none⟩) (l.length+1) cp)∨((∀ b,blk v'=some b->w.heap.size<=b)/\∀ b,b<w.heap.size->u.heap[b]?=w.heap[b]?)
theorem Gw.blk (h:Gw w u Te v v' l x) {b:Nat} (hb:blk v'=some b):b<u.heap.size/\(Gx.blk v=some b∨w.heap.size<=b):=by
 obtain ⟨ys,ho,_⟩:=h.own
 refine ⟨?_,?_⟩
 ·rcases ho.2 with ⟨rfl,_⟩|⟨g,cap,cur,rfl,_,hh,_⟩
  ·cases hb
  ·cases hb; exact heap_lt hh
 ·rcases h.mv with ⟨g,cp,rfl,rfl⟩|⟨h1,_⟩
  ·exact .inl hb
  ·exact .inr (h1 b hb)
def asd (X0:Nat->Prop) (v v':Value) (b:Nat):Prop:=X0 b∨(blk v=some b/\blk v'≠some b)
theorem fwd (hX0:∀ b,X0 b->b<w0.heap.size) (hA:∀ x∈A,x.1<5) (hA5:∀ i,i<5->∃ ct,(i,ct)∈A) (hok:∀ x∈A,okc x.2) {sl:List (Nat×AV)} (hf:Fr w0 X0 Bo N ⟨sl,A++[(5,.row Te .str l)],6⟩ ρ a w) (hv:ρ[5]?=some v) (hg:Gw w u Te v v' l x) :
    (∀ b,asd X0 v v' b->b<u.heap.size)/\Fr u (asd X0 v v') (ρ.set 5 v') 0 ⟨[],A++[(5,.row Te .str (l++[x]))],6⟩ (ρ.set 5 v') act0 u:=by
 have hn:ρ.length=6:=hf.nx
 have hm5:(5,CT.row Te .str l)∈A++[(5,CT.row Te .str l)]:=List.mem_append_right _ List.mem_cons_self
 have hmA:∀ {y},y∈A->y∈A++[(5,CT.row Te .str l)]:=fun hy=>List.mem_append_left _ hy
 have hgs:(ρ.set 5 v')[5]?=some v':=by rw [List.getElem?_set_self (by omega)]
 have h5:∀ b,blk v=some b->inC ρ 5 b:=fun b hb=>inC_blk hv hb
 have h5':∀ b,inC (ρ.set 5 v') 5 b->blk v'=some b:=fun b hb=>by
  obtain ⟨ys,ho,_⟩:=hg.own
  exact own_inV ho (by rw [<-inC_of hgs]; exact hb)
 have hwu:w.heap.size<=u.heap.size:=hg.gr.size
 have hw0:w0.heap.size<=w.heap.size:=hf.kp.size
 have hblt:∀ b,blk v=some b->b<w.heap.size:=fun b hb=>(hf.bl _ hm5 b (h5 b hb)).1
 have hnot:∀ y∈A,∀ b,inC ρ y.1 b->blk v≠some b:=fun y hy b hb e=>hf.dj y (hmA hy) _ hm5 (by have:=hA y hy; show y.1≠5; omega) b hb (h5 b e)
 have hmem:∀ {y:Nat×CT},y∈A++[(5,CT.row Te .str (l++[x]))]->y∈A∨y=(5,CT.row Te .str (l++[x])):=fun hy=>(List.mem_append.1 hy).imp id fun h=>by simpa using h
 have hlt:∀ b,asd X0 v v' b->b<u.heap.size:=by
  rintro b (hb|⟨hb,_⟩)
  ·have:=hX0 b hb; omega
  ·have:=hblt b hb; omega
 have hXX:∀ b,XX (asd X0 v v') (ρ.set 5 v') (A++[(5,CT.row Te .str (l++[x]))]) b->XX X0 ρ (A++[(5,CT.row Te .str l)]) b∨w.heap.size<=b:=by
  rintro b ((hb|⟨hb,_⟩)|⟨y,hy,hb⟩)
  ·exact .inl (.inl hb)
  ·exact .inl (.inr ⟨_,hm5,h5 b hb⟩)
  ·rcases hmem hy with hy|rfl
   ·rw [inC_set (by have:=hA y hy; omega)] at hb
    exact .inl (.inr ⟨y,hmA hy,hb⟩)
   ·rcases (hg.blk (h5' b hb)).2 with h'|h'
    ·exact .inl (.inr ⟨_,hm5,h5 b h'⟩)
    ·exact .inr h'
 have hE:Ev (XX X0 ρ (A++[(5,CT.row Te .str l)])) w u:=⟨hwu,fun b hb hn=>hg.gr.block b hb fun e=>hn (.inr ⟨_,hm5,h5 b e.symm⟩)⟩
 refine ⟨hlt,⟨rfl,rfl,Kept.refl u,by rw [List.length_set]; exact hn,?_,?_,?_,?_,?_,(fun t y hy=>by cases hy),⟨?_,by rw [List.length_set]; exact Nat.le_of_eq hn,fun y hy T l e hl=>rfl⟩⟩⟩
 ·have:=hf.nd
  rw [List.map_append] at this ⊢
  exact this
 ·intro y hy
  rcases hmem hy with hy|rfl
  ·have:=hA y hy; show y.1<6; omega
  ·show 5<6; omega
 ·intro y hy b hb
  refine ⟨?_,.inr ⟨y.1,hb⟩⟩
  rcases hmem hy with hy|rfl
  ·rw [inC_set (by have:=hA y hy; omega)] at hb
   have:=(hf.bl y (hmA hy) b hb).1
   omega
  ·exact (hg.blk (h5' b hb)).1
 ·intro y hy z hz hne b h1 h2
  rcases hmem hy with hy|rfl<;>rcases hmem hz with hz|rfl
  ·rw [inC_set (by have:=hA y hy; omega)] at h1
   rw [inC_set (by have:=hA z hz; omega)] at h2
   exact hf.dj y (hmA hy) z (hmA hz) hne b h1 h2
  ·rw [inC_set (by have:=hA y hy; omega)] at h1
   rcases (hg.blk (h5' b h2)).2 with h'|h'
   ·exact hnot y hy b h1 h'
   ·have:=(hf.bl y (hmA hy) b h1).1; omega
  ·rw [inC_set (by have:=hA z hz; omega)] at h2
   rcases (hg.blk (h5' b h1)).2 with h'|h'
   ·exact hnot z hz b h2 h'
   ·have:=(hf.bl z (hmA hz) b h2).1; omega
  ·exact hne rfl
 ·intro y hy
  rcases hmem hy with hy|rfl
  ·have h5n:y.1≠5:=by have:=hA y hy; omega
   refine cm_set (hok y hy) h5n v' (cm_tr (hf.cs y (hmA hy)) hXX hE fun b hb=>hg.gr.block b (hf.bl y (hmA hy) b hb).1 fun e=>hnot y hy b hb e.symm)
  ·obtain ⟨ys,o1,o2,o3⟩:=hg.own
   exact ⟨v',ys,hgs,o1,o2,o3⟩
 ·rintro b ⟨i,hi⟩
  have hi6:i<6:=by
   rcases Nat.lt_or_ge i 6 with h|h
   ·exact h
   ·exact (inC_none (by rw [List.length_set]; omega) hi).elim
  rcases Nat.lt_or_ge i 5 with h5i|h5i
  ·obtain ⟨ct,hct⟩:=hA5 i h5i
   rw [inC_set (by omega)] at hi
   have h1:=hf.bl _ (hmA hct) b hi
   refine ⟨by omega,?_⟩
   rintro (hb|⟨hb,_⟩)
   ·exact own_not hf hX0 (hmA hct) hi hb
   ·exact hnot _ hct b hi hb
  ·have:i=5:=by omega
   subst this
   have h1:=hg.blk (h5' b hi)
   refine ⟨h1.1,?_⟩
   rintro (hb|⟨_,hb⟩)
   ·rcases h1.2 with h'|h'
    ·exact own_not hf hX0 hm5 (h5 b h') hb
    ·have:=hX0 b hb; omega
   ·exact hb (h5' b hi)
theorem staleA_id {k:Nat} {y:AV} {ρ':List Value} {X:Nat->Prop} {vs:List Value} (hs:staleA k y=y) (hr:∀ c,c≠k->ρ'[c]?=ρ[c]?) (hl:ρ'.length=ρ.length) (h:m ρ X w y vs):m ρ' X w y vs:=by
 have:ρ'=ρ.set k (ρ'.getD k undef):=by
  refine List.ext_getElem? fun c=>?_
  by_cases hc:c=k
  ·subst hc
   rcases Nat.lt_or_ge c ρ.length with h1|h1
   ·rw [List.getElem?_set_self h1,List.getElem?_eq_getElem (by omega),List.getD_eq_getElem?_getD,List.getElem?_eq_getElem (by omega)]
    rfl
   ·rw [List.getElem?_eq_none (by omega),List.getElem?_eq_none (by rw [List.length_set]; exact h1)]
  ·rw [List.getElem?_set_ne (Ne.symm hc),hr c hc]
 rw [this,<-hs]
 exact m_stale _ h
theorem bck (hX0:∀ b,X0 b->b<w0.heap.size) (hA:∀ x∈A,x.1<5) (hA5:∀ i,i<5->∃ ct,(i,ct)∈A) (hok1:∀ x∈A,okc x.2) (hA2:A2.map (·.1)=A.map (·.1)) (hok:∀ x∈A2,okc x.2) (hbx:∀ x∈A2,x.1≠4->∃ T l,x.2=.box T l) (hbx3:∀ x∈A2,∀ T l,x.2=.box T l->x.1≠4) (hbx4:∀ x∈A,x.1≠4->∃ T l,x.2=.box T l) {sl sl2:List (Nat×AV)}
    (hf:Fr w0 X0 Bo N ⟨sl,A++[(5,.row Te .str l)],6⟩ ρ a w) (hv:ρ[5]?=some v) (hg:Gw w u Te v v' l x) {ρ2:List Value} (hf2:Fr u (asd X0 v v') (ρ.set 5 v') 0 ⟨[],A2++[(5,.row Te .str (l++[x]))],6⟩ ρ2 act0 w2) (hv2:ρ2[5]?=some v') {a':Act} (hd:a'.defers=[]) (hsz:a'.tmps.size=N)
    (hsl:∀ t y,get? sl2 t=some y->get? sl t=some y/\staleA 4 y=y/\gt a' t=gt a t) :
    Fr w0 X0 Bo N ⟨sl2,A2++[(5,.row Te .str l)],6⟩ (ρ2.set 5 v) a' w2/\(ρ2.set 5 v)[5]?=some v:=by
 obtain ⟨hX1,hf1⟩:=fwd hX0 hA hA5 hok1 hf hv hg
 have hn:ρ.length=6:=hf.nx
 have hn2:ρ2.length=6:=hf2.nx
 have hm5:(5,CT.row Te .str l)∈A++[(5,CT.row Te .str l)]:=List.mem_append_right _ List.mem_cons_self
 have hm52:(5,CT.row Te .str (l++[x]))∈A2++[(5,CT.row Te .str (l++[x]))]:=List.mem_append_right _ List.mem_cons_self
 have hmA:∀ {y},y∈A->y∈A++[(5,CT.row Te .str l)]:=fun hy=>List.mem_append_left _ hy
 have hmA2:∀ {y},y∈A2->y∈A2++[(5,CT.row Te .str (l++[x]))]:=fun hy=>List.mem_append_left _ hy
 have hA2':∀ y∈A2,y.1<5:=fun y hy=>by
  have:y.1∈A.map (·.1):=by rw [<-hA2]; exact List.mem_map_of_mem hy
  obtain ⟨z,hz,e⟩:=List.mem_map.1 this
  rw [<-e]; exact hA z hz
 have hgs:(ρ2.set 5 v)[5]?=some v:=by rw [List.getElem?_set_self (by omega)]
 refine ⟨?_,hgs⟩
 have hgc:(ρ.set 5 v')[5]?=some v':=by rw [List.getElem?_set_self (by omega)]
 have h5:∀ b,blk v=some b->inC ρ 5 b:=fun b hb=>inC_blk hv hb
 have hfm:∃ bb n c,v=.slice bb n c:=by
  obtain ⟨vv,xs,q1,q2,_⟩:=hf.cs _ hm5
  have q1:ρ[5]?=some vv:=q1
  rw [hv] at q1
  cases q1
  exact own_form q2
 have h5v:∀ b,inC (ρ2.set 5 v) 5 b->blk v=some b:=fun b hb=>by
  obtain ⟨vv,xs,q1,q2,_⟩:=hf.cs _ hm5
  have q1:ρ[5]?=some vv:=q1
  rw [hv] at q1
  cases q1
  exact own_inV q2 (by rw [<-inC_of hgs]; exact hb)
 have h52:∀ b,blk v'=some b->inC ρ2 5 b:=fun b hb=>inC_blk hv2 hb
 have hwu:w.heap.size<=u.heap.size:=hg.gr.size
 have hw0:w0.heap.size<=w.heap.size:=hf.kp.size
 have hu2:u.heap.size<=w2.heap.size:=hf2.kp.size
 have hblt:∀ b,blk v=some b->b<w.heap.size:=fun b hb=>(hf.bl _ hm5 b (h5 b hb)).1
 have hnot:∀ y∈A,∀ b,inC ρ y.1 b->blk v≠some b:=fun y hy b hb e=>hf.dj y (hmA hy) _ hm5 (by have:=hA y hy; show y.1≠5; omega) b hb (h5 b e)
 have hmem:∀ {y:Nat×CT},y∈A2++[(5,CT.row Te .str l)]->y∈A2∨y=(5,CT.row Te .str l):=fun hy=>(List.mem_append.1 hy).imp id fun h=>by simpa using h
 have hold:∀ b,inB (ρ.set 5 v') b->b<u.heap.size/\(w.heap.size<=b∨∃ y∈A++[(5,CT.row Te .str l)],inC ρ y.1 b):=by
  rintro b ⟨i,hi⟩
  refine ⟨(hf1.pn.bo b ⟨i,hi⟩).1,?_⟩
  have hi6:i<6:=by
   rcases Nat.lt_or_ge i 6 with h|h
   ·exact h
   ·exact (inC_none (by rw [List.length_set]; omega) hi).elim
  rcases Nat.lt_or_ge i 5 with h5i|h5i
  ·obtain ⟨ct,hct⟩:=hA5 i h5i
   rw [inC_set (by omega)] at hi
   exact .inr ⟨_,hmA hct,hi⟩
  ·have:i=5:=by omega
   subst this
   have hb:blk v'=some b:=by
    obtain ⟨ys,ho,_⟩:=hg.own
    exact own_inV ho (by rw [<-inC_of hgc]; exact hi)
   rcases (hg.blk hb).2 with h'|h'
   ·exact .inr ⟨_,hm5,h5 b h'⟩
   ·exact .inl h'
 have hXc:∀ b,XX X0 ρ (A++[(5,CT.row Te .str l)]) b->b<w.heap.size:=hf.xlt hX0
 have hE:Ev (XX X0 ρ (A++[(5,CT.row Te .str l)])) w w2:=⟨Nat.le_trans hwu hu2,fun b hb hn=>by
  rw [hf2.kp.block b (Nat.lt_of_lt_of_le hb hwu) fun hi=>?_]
  ·exact hg.gr.block b hb fun e=>hn (.inr ⟨_,hm5,h5 b e.symm⟩)
  ·rcases (hold b hi).2 with h'|⟨y,hy,h'⟩
   ·omega
   ·exact hn (.inr ⟨y,hy,h'⟩)⟩
 have hin2:∀ y∈A2,∀ b,inC ρ2 y.1 b->w.heap.size<=b∨∃ y∈A++[(5,CT.row Te .str l)],inC ρ y.1 b:=fun y hy b hb=>by
  rcases (hf2.bl y (hmA2 hy) b hb).2 with h'|h'
  ·exact .inl (Nat.le_trans hwu h')
  ·exact (hold b h').2
 have hXX:∀ b,XX X0 (ρ2.set 5 v) (A2++[(5,CT.row Te .str l)]) b->XX X0 ρ (A++[(5,CT.row Te .str l)]) b∨w.heap.size<=b:=by
  rintro b (hb|⟨y,hy,hb⟩)
  ·exact .inl (.inl hb)
  ·rcases hmem hy with hy|rfl
   ·rw [inC_set (by have:=hA2' y hy; omega)] at hb
    exact (hin2 y hy b hb).symm.imp (fun h=>.inr h) id
   ·exact .inl (.inr ⟨_,hm5,h5 b (h5v b hb)⟩)
 have hXX2:∀ b,XX X0 (ρ2.set 5 v) (A2++[(5,CT.row Te .str l)]) b->XX (asd X0 v v') ρ2 (A2++[(5,CT.row Te .str (l++[x]))]) b:=by
  rintro b (hb|⟨y,hy,hb⟩)
  ·exact .inl (.inl hb)
  ·rcases hmem hy with hy|rfl
   ·rw [inC_set (by have:=hA2' y hy; omega)] at hb
    exact .inr ⟨y,hmA2 hy,hb⟩
   ·have hb:=h5v b hb
    by_cases e:blk v'=some b
    ·exact .inr ⟨_,hm52,h52 b e⟩
    ·exact .inl (.inr ⟨hb,e⟩)
 have hkeep:∀ c,c<4->ρ2[c]?=ρ[c]?:=fun c hc=>by
  obtain ⟨ct,hct⟩:=hA5 c (by omega)
  have:c∈A2.map (·.1):=by rw [hA2]; exact List.mem_map_of_mem (f:=(·.1)) hct
  obtain ⟨z,hz,e⟩:=List.mem_map.1 this
  have e:z.1=c:=e
  obtain ⟨T,ll,hzb⟩:=hbx z hz (by omega)
  have:=hf2.pn.pn z (hmA2 hz) T ll hzb (by rw [List.length_set]; omega)
  rw [e,List.getElem?_set_ne (by omega)] at this
  exact this
 have hr4:∀ c,c≠4->(ρ2.set 5 v)[c]?=ρ[c]?:=fun c hc=>by
  by_cases h5c:c=5
  ·subst h5c; rw [hgs,hv]
  ·rw [List.getElem?_set_ne (Ne.symm h5c)]
   rcases Nat.lt_or_ge c 4 with h|h
   ·exact hkeep c h
   ·rw [List.getElem?_eq_none (by omega),List.getElem?_eq_none (by omega)]
 refine ⟨hd,hsz,?_,by rw [List.length_set]; exact hn2,?_,?_,?_,?_,?_,?_,⟨hf.pn.bo,hf.pn.le,?_⟩⟩
 ·refine ⟨hf2.kp.os.trans (hg.gr.os.trans hf.kp.os),hf2.kp.tape.trans (hg.gr.tape.trans hf.kp.tape),hf2.kp.output.trans (hg.gr.output.trans hf.kp.output),by omega,fun b hb hn=>?_⟩
  have hb:b<w0.heap.size:=hb
  have hnk:∀ y∈A++[(5,CT.row Te .str l)],¬inC ρ y.1 b:=fun y hy hi=>by
   rcases (hf.bl y hy b hi).2 with h'|h'
   ·omega
   ·exact hn h'
  rw [hf2.kp.block b (by omega) fun hi=>?_,hg.gr.block b (by omega) (fun e=>hnk _ hm5 (h5 b e.symm)),hf.kp.block b hb hn]
  rcases (hold b hi).2 with h'|⟨y,hy,h'⟩
  ·omega
  ·exact hnk y hy h'
 ·have:=hf2.nd
  rw [List.map_append] at this ⊢
  exact this
 ·intro y hy
  rcases hmem hy with hy|rfl
  ·have:=hA2' y hy; show y.1<6; omega
  ·show 5<6; omega
 ·intro y hy b hb
  rcases hmem hy with hy|rfl
  ·rw [inC_set (by have:=hA2' y hy; omega)] at hb
   refine ⟨(hf2.bl y (hmA2 hy) b hb).1,?_⟩
   rcases hin2 y hy b hb with h'|⟨z,hz,h'⟩
   ·exact .inl (Nat.le_trans hw0 h')
   ·exact (hf.bl z hz b h').2
  ·have h':=hf.bl _ hm5 b (h5 b (h5v b hb))
   exact ⟨by omega,h'.2⟩
 ·have h52n:∀ y∈A2,∀ b,inC ρ2 y.1 b->blk v≠some b:=by
    intro y hy b hb e
    by_cases e':blk v'=some b
    ·exact hf2.dj y (hmA2 hy) _ hm52 (by have:=hA2' y hy; show y.1≠5; omega) b hb (h52 b e')
    ·exact own_not hf2 hX1 (hmA2 hy) hb (.inr ⟨e,e'⟩)
  intro y hy z hz hne b h1 h2
  rcases hmem hy with hy|rfl<;>rcases hmem hz with hz|rfl
  ·rw [inC_set (by have:=hA2' y hy; omega)] at h1
   rw [inC_set (by have:=hA2' z hz; omega)] at h2
   exact hf2.dj y (hmA2 hy) z (hmA2 hz) hne b h1 h2
  ·rw [inC_set (by have:=hA2' y hy; omega)] at h1
   exact h52n y hy b h1 (h5v b h2)
  ·rw [inC_set (by have:=hA2' z hz; omega)] at h2
   exact h52n z hz b h2 (h5v b h1)
  ·exact hne rfl
 ·intro y hy
  rcases hmem hy with hy|rfl
  ·have h5n:y.1≠5:=by have:=hA2' y hy; omega
   refine cm_set (hok y hy) h5n v ?_
   refine cm_tr (hf2.cs y (hmA2 hy)) (fun b hb=>.inl (hXX2 b hb)) ⟨Nat.le_refl _,fun _ _ _=>rfl⟩ fun _ _=>rfl
  ·rcases hg.mv with ⟨g,cp,e1,e2⟩|⟨e1,e2⟩
   ·obtain ⟨vv,ys,q1,q2,q3,q4⟩:=hf2.cs _ hm52
    have q1:ρ2[5]?=some vv:=q1
    rw [hv2] at q1
    cases q1
    obtain ⟨vv,xs,r1,r2,r3,r4⟩:=hf.cs _ hm5
    have r1:ρ[5]?=some vv:=r1
    rw [hv] at r1
    cases r1
    subst e1
    subst e2
    have hlx:(l++[x]).length=l.length+1:=by simp
    have q2:w2.ownsRow 0 Te 1 (.slice (some ⟨g,0,none⟩) (l.length+1) cp) (l++[x]).length ys:=q2
    rw [hlx] at q2
    have hn0:l.length<=cp:=by
     rcases r2.2 with ⟨h,_⟩|⟨_,_,_,h,_,_,h2,_⟩
     ·cases h
     ·cases h; exact h2
    rcases q2.2 with ⟨h,_⟩|⟨g',cp',cur,h,hb,hh,h2,h3,h4,h5⟩
    ·cases h
    ·cases h
     refine ⟨_,ys.take (l.length*1),hgs,⟨?_,.inr ⟨g,cp,cur,rfl,hb,hh,hn0,h3,h4,?_⟩⟩,fun c hc=>q3 c (List.mem_of_mem_take hc),fun i s hi=>?_⟩
     ·rw [List.length_take,q2.1]
      have:Ty.str.size=1:=rfl
      rw [this]
      omega
     ·rw [<-h5,List.take_take]
      congr 1
      have:Ty.str.size=1:=rfl
      rw [this]
      omega
     ·have hil:i<l.length:=by
        rcases Nat.lt_or_ge i l.length with h'|h'
        ·exact h'
        ·rw [List.getElem?_eq_none h'] at hi; cases hi
      have:=q4 i s (by rw [List.getElem?_append_left hil]; exact hi)
      have hz:Ty.str.size=1:=rfl
      rw [hz] at this ⊢
      rw [List.drop_take,List.take_take,Nat.min_eq_left (by omega)]
      exact str_part this
   ·obtain ⟨vv,xs,r1,r2,r3,r4⟩:=hf.cs _ hm5
    have r1:ρ[5]?=some vv:=r1
    rw [hv] at r1
    cases r1
    refine ⟨v,xs,hgs,ownsRow_of r2 fun b hb=>?_,r3,fun i s hi=>str_part (r4 i s hi)⟩
    have hbw:=hblt b hb
    rw [hf2.kp.block b (by omega) fun hi=>?_,e2 b hbw]
    exact (hf1.pn.bo b hi).2 (.inr ⟨hb,fun e=>by have:=e1 b e; omega⟩)
 ·intro t y hy
  obtain ⟨s1,s2,s3⟩:=hsl t y hy
  rw [s3]
  exact staleA_id s2 hr4 (by rw [List.length_set]; omega) (m_tr (hf.sl t y s1) hXX hE)
 ·intro y hy T ll e hl
  rcases hmem hy with hy|rfl
  ·have:y.1∈A.map (·.1):=by rw [<-hA2]; exact List.mem_map_of_mem hy
   obtain ⟨z,hz,e1⟩:=List.mem_map.1 this
   rw [hr4 y.1 (hbx3 y hy T ll e)]
   rw [<-e1]
   rw [<-e1] at hl
   obtain ⟨T',l',e3⟩:=hbx4 z hz (by rw [e1]; exact hbx3 y hy T ll e)
   exact hf.pn.pn z (hmA hz) T' l' e3 hl
  ·cases e
end
end Go.Proofs.YtdobkkhncfifeabGreat.Gx
namespace Go.Proofs.YtdobkkhncfifeabGreat.Gx
open Go Go.RowKit Tw B Nt
set_option linter.unusedVariables false
set_option linter.unusedSimpArgs false
set_option maxHeartbeats 40000000
set_option maxRecDepth 20000
@[go_sem] def clsM:MSpec:=⟨[.d (.slice .str)],fun d=>⟨[(0,.row 9 .str d.1)],1,.own 0,[List.length d.1<=1000]⟩⟩
theorem clsM_ok:MSpecOk Tryz.prog 20 clsM:=by
 refine fnM_ok EL4_ok clsM Tryz.func20 rfl (by decide) (N:=8) rfl (res:=[.tmp 2]) rfl (by decide) [] [] [] 100 (by kernel_rfl) ?_
 rintro ⟨l,_⟩ hw hp H hH
 dsimp only [go_sem] at hw hp ⊢
 obtain ⟨hp,-⟩:=hp
 change List.length l<=1000 at hp
 refine ⟨fun h=>?_,?_,?_⟩
 ·and_intros<;>first|trivial|rfl|omega|exact h.symm
 ·change (0+List.length l)*16<=_
  omega
 ·and_intros<;>first|trivial|rfl|omega
@[go_sem] noncomputable def EX1:Env:=⟨(EL4).P,(57,⟨.fn,0,8,0⟩)::(EL4).tys,(EL4).sp,(EL4).ms⟩
theorem EX1_ok:(EX1).Ok:=⟨fun x hx=>by
 rcases List.mem_cons.1 hx with rfl|hx
 ·exact ⟨by kernel_rfl,by kernel_rfl,by kernel_rfl,by kernel_rfl,by kernel_rfl⟩
 ·exact EL4_ok.ty x hx,EL4_ok.sp,EL4_ok.ms,EL4_ok.mx⟩
@[go_sem] def exF:AV:=.clo 19 (.cons (.ref 0 0) (.cons (.ref 1 0) (.cons (.ref 2 0) (.cons (.ref 3 0) .nil))))
def exA (C:List (List Str)) (R:List (List Str)) (hd:List Str) (D:List Cq):List (Nat×CT) :=
 [(0,.box 24 (.cons (.dat (.slice (.slice .str)) C) .nil)),(1,.box 24 (.cons (.own 4) .nil)),(2,.box 33 (.cons (.dat (.slice .str) hd) (.cons (.dat (.slice cqT) D) .nil))),(3,.box 57 (.cons exF .nil)),(4,.row 23 (.slice .str) R)]
def exCk (C:List (List Str)) (R:List (List Str)) (hd:List Str) (D:List Cq) (l:List Str):List (Nat×CT):=exA C R hd D++[(5,.row 9 .str l)]
def exP (k:Nat) (C:List (List Str)) (R:List (List Str)) (hd:List Str) (D:List Cq) (l:List Str):Prop :=
 l.length+k=D.length/\(D.length<=3/\hd.length<=1000/\∀ c∈D,cqP c/\(vrs (trm c)).length<=30)/\(C.length=D.length/\∀ i,i<D.length->C.getD i []=candI D hd i)/\R.length+30 ^ k<=1000000
def ExtOk (k:Nat):Prop:=∀ (C R:List (List Str)) (hd:List Str) (D:List Cq) (l:List Str),exP k C R hd D l->∀ (ρ0:List Value) (X:Nat->Prop) (w:World) (v:Value) (vs:List Value),(∀ b,X b->b<w.heap.size)->Fr w X ρ0 0 ⟨[],exCk C R hd D l,6⟩ ρ0 act0 w->ρ0[5]?=some v ->
 m ρ0 (fun _=>False) w (.cons (.ref 0 0) (.cons (.ref 1 0) (.cons (.ref 2 0) (.cons (.ref 3 0) .nil)))) vs ->
 Calls Tryz.prog 19 (v::vs).toArray w (fun e w'=>e=.returned (.tuple #[])/\∃ ρ',ρ'[5]?=some v/\Fr w X ρ0 0 ⟨[],exCk C (R++chI D hd k l) hd D l,6⟩ ρ' act0 w')
noncomputable def exS (N:Nat):Sx:=⟨EX1,N,[(10,[(1000000,.mx [])]),(2,[(1000000,.mx [(9000000,0)])]),(13,[(1000000,.mx [(9000000,0)])])],[],[2,13],[],.nil,6,some ([],0)⟩
theorem exA_lt {C R:List (List Str)} {hd:List Str} {D:List Cq}:∀ y∈exA C R hd D,y.1<5:=by
 intro y hy
 simp only [exA,List.mem_cons,List.not_mem_nil,or_false] at hy
 rcases hy with rfl|rfl|rfl|rfl|rfl<;>(dsimp only; decide)
theorem exA_all {C R:List (List Str)} {hd:List Str} {D:List Cq}:∀ i,i<5->∃ ct,(i,ct)∈exA C R hd D:=by
 intro i hi
 have:i=0∨i=1∨i=2∨i=3∨i=4:=by omega
 rcases this with rfl|rfl|rfl|rfl|rfl<;>exact ⟨_,by simp [exA]; exact rfl⟩
theorem exA_ok {C R:List (List Str)} {hd:List Str} {D:List Cq}:∀ y∈exA C R hd D,okc y.2:=by
 intro y hy
 simp only [exA,List.mem_cons,List.not_mem_nil,or_false] at hy
 rcases hy with rfl|rfl|rfl|rfl|rfl
 ·exact .inl ⟨_,_,rfl,rfl⟩
 ·exact .inl ⟨_,_,rfl,rfl⟩
 ·exact .inl ⟨_,_,rfl,rfl⟩
 ·exact .inl ⟨_,_,rfl,rfl⟩
 ·exact .inr ⟨_,_,_,rfl⟩
theorem exA_keys (C R R':List (List Str)) (hd:List Str) (D:List Cq):(exA C R' hd D).map (·.1)=(exA C R hd D).map (·.1):=rfl
theorem exA_bx {C R:List (List Str)} {hd:List Str} {D:List Cq}:∀ y∈exA C R hd D,y.1≠4->∃ T l,y.2=.box T l:=by
 intro y hy h4
 simp only [exA,List.mem_cons,List.not_mem_nil,or_false] at hy
 rcases hy with rfl|rfl|rfl|rfl|rfl
 ·exact ⟨_,_,rfl⟩
 ·exact ⟨_,_,rfl⟩
 ·exact ⟨_,_,rfl⟩
 ·exact ⟨_,_,rfl⟩
 ·exact absurd rfl h4
theorem exA_nb {C R:List (List Str)} {hd:List Str} {D:List Cq}:∀ y∈exA C R hd D,∀ T l,y.2=.box T l->y.1≠4:=by
 intro y hy T l e
 simp only [exA,List.mem_cons,List.not_mem_nil,or_false] at hy
 rcases hy with rfl|rfl|rfl|rfl|rfl
 ·dsimp only; decide
 ·dsimp only; decide
 ·dsimp only; decide
 ·dsimp only; decide
 ·cases e
theorem nwO_of {t d:Nat} {op:Op} {y:TypeId} {p:String} {f:Array Edge} {g:Option (Nat×Bool)} (h:d≠t):nwO t ⟨some d,op,y,p,f,g⟩=true:=by
 unfold nwO
 dsimp only
 cases hq:Nat.beq d t with
 | false=>rfl
 | true=>exact absurd (Nat.eq_of_beq_eq_true hq) h
theorem Gw.next {w u u':World} {Te:TypeId} {v v':Value} {l:List Str} {x:Str} (h:Gw w u Te v v' l x) (hb:Below u.heap.size u u'):Gw w u' Te v v' l x:=by
 have hs:=h.gr.size
 refine ⟨⟨hb.os.trans h.gr.os,hb.tape.trans h.gr.tape,hb.output.trans h.gr.output,Nat.le_trans hs hb.size,fun k hk hn=>(hb.block k (by omega)).trans (h.gr.block k hk hn)⟩,?_,h.mv.imp id fun h2=>⟨h2.1,fun b hb2=>(hb.block b (by omega)).trans (h2.2 b hb2)⟩⟩
 obtain ⟨ys,o1,o2,o3⟩:=h.own
 exact ⟨ys,ownsRow_of o1 fun b e=>hb.block b (h.blk e).1,o2,o3⟩
abbrev exAn:List (Nat×List (Nat×An)):=[(10,[(1000000,.mx [])]),(2,[(1000000,.mx [(9000000,0)])]),(13,[(1000000,.mx [(9000000,0)])])]
section
variable {w0:World} {X0:Nat->Prop} {Bo:List Value} {Q:Exit->Act->World->Prop} {v:Value} {C R:List (List Str)} {hd:List Str} {D:List Cq} {l:List Str} {x:Str} {k':List It} {sl sl2:List (Nat×AV)}
theorem ext13 {k:Nat} (ih:ExtOk k) (hp:exP k C R hd D (l++[x])) (hX0:∀ b,X0 b->b<w0.heap.size) {y0 y1 y2 y3 y4 y5:TypeId} {p0 p1 p2 p3 p4 p5:String} {f0 f1 f2 f3 f4 f5:Array Edge} {dd:Option Nat} {at5:Array TypeId}
    (hchk:chk [⟨some 57,.load 57 (.tmp 4),y0,p0,f0,none⟩,⟨some 58,.move (.tmp 0),y1,p1,f1,none⟩,⟨some 59,.move (.tmp 8),y2,p2,f2,none⟩,⟨some 60,.buildSlice 23 1 #[(0,.tmp 59)],y3,p3,f3,none⟩,⟨some 61,.call { callee:=.builtin .append,args:=#[.tmp 58,.tmp 60],argTypes:=#[23,23] },y4,p4,f4,none⟩,⟨dd,.call { callee:=.value (.tmp 57),args:=#[.tmp 61],argTypes:=at5 },y5,p5,f5,none⟩] [0,0,0,4,14,31] [[(4,none)],[(0,none)],[(8,none)],[(59,some 2)],[(58,some 1),(60,some 3)],[(57,some 0),(61,some 4)]] 64=true)
    (htl:tailB [⟨some 57,.load 57 (.tmp 4),y0,p0,f0,none⟩,⟨some 58,.move (.tmp 0),y1,p1,f1,none⟩,⟨some 59,.move (.tmp 8),y2,p2,f2,none⟩,⟨some 60,.buildSlice 23 1 #[(0,.tmp 59)],y3,p3,f3,none⟩,⟨some 61,.call { callee:=.builtin .append,args:=#[.tmp 58,.tmp 60],argTypes:=#[23,23] },y4,p4,f4,none⟩,⟨dd,.call { callee:=.value (.tmp 57),args:=#[.tmp 61],argTypes:=at5 },y5,p5,f5,none⟩] [0,0,0,4,14,31] 5=true)
    (hdd:dd≠some 0/\∀ t,dd=some t->57<=t) (g0:get? sl 0=some (.own 5)) (g4:get? sl 4=some (.ref 3 0)) (g8:get? sl 8=some (.dat .str x)) (hsl:∀ t y,get? sl2 t=some y->get? sl t=some y/\staleA 4 y=y/\t<57)
    (h:HsK exAn EX1 w0 X0 Bo 64 Q 0 v k' ⟨sl2,exCk C (R++chI D hd k (l++[x])) hd D l,6⟩) :
    HsK exAn EX1 w0 X0 Bo 64 Q 0 v (.code (.region 13 #[⟨some 57,.load 57 (.tmp 4),y0,p0,f0,none⟩,⟨some 58,.move (.tmp 0),y1,p1,f1,none⟩,⟨some 59,.move (.tmp 8),y2,p2,f2,none⟩,⟨some 60,.buildSlice 23 1 #[(0,.tmp 59)],y3,p3,f3,none⟩,⟨some 61,.call { callee:=.builtin .append,args:=#[.tmp 58,.tmp 60],argTypes:=#[23,23] },y4,p4,f4,none⟩,⟨dd,.call { callee:=.value (.tmp 57),args:=#[.tmp 61],argTypes:=at5 },y5,p5,f5,none⟩] true)::k') ⟨sl,exCk C R hd D l,6⟩:=by
 intro hok hnw ρ a w hf hgv
 have hok2:okK exAn 64 k'=true:=by
  simp only [okK,Bool.and_eq_true] at hok
  exact hok.2
 have hnw2:nwK 0 exAn k'=true:=by
  simp only [nwK,Bool.and_eq_true] at hnw
  exact hnw.2
 have hf:Fr w0 X0 Bo 64 ⟨sl,exA C R hd D++[(5,.row 9 .str l)],6⟩ ρ a w:=hf
 have hm5:(5,CT.row 9 .str l)∈exA C R hd D++[(5,CT.row 9 .str l)]:=List.mem_append_right _ List.mem_cons_self
 obtain ⟨v5,xs,q1,ho,hone,hrp⟩:=hf.cs _ hm5
 have q1:ρ[5]?=some v5:=q1
 obtain ⟨v6,q2,_,q3⟩:=hf.sl _ _ g0
 rw [q1] at q2
 cases q2
 have q3:=(List.cons.inj q3).1
 have:v5=v:=q3.symm.trans hgv
 subst this
 have hm3:(3,CT.box 57 (.cons exF .nil))∈exA C R hd D++[(5,CT.row 9 .str l)]:=by unfold exA; simp
 have h3:=hf.cs _ hm3
 have h3bl:=hf.bl _ hm3
 have h3dj:=hf.dj _ hm3 _ hm5 (by show (3:Nat)≠5; decide)
 have s4:=hf.sl _ _ g4
 have s8:m [] (fun _=>False) w (.dat .str x) [gt a 8]:=by
  obtain ⟨cs,r1,r2⟩:=hf.sl _ _ g8
  exact ⟨cs,r1,r2⟩
 have hds:∀ {ops:Array Oper} (g:Nat),nthO (dsts ops.toList) g=(ops[g]?).map Oper.dst:=fun {ops} g=>by have:=dsts_ok ops.toList g; simpa using this
 let J:(Nat->Bool)->(Nat->Value)->World->Prop:=fun L val u=>(L 4=false->Below w.heap.size w u)/\(L 0=true->m ρ (fun _=>False) u exF [val 0])/\(L 1=true->val 1=v5)/\(L 2=true->m [] (fun _=>False) u (.dat .str x) [val 2])/\(L 3=true->L 4=false->m [] (fun b=>b<w.heap.size) u (.dat (.slice .str) [x]) [val 3])/\(L 4=true->L 3=true/\Gw w u 9 v5 (val 4) l x)
 have pure:∀ {L:Nat->Bool} {val:Nat->Value} {u:World} (j:Nat) (z:Value) (u':World),J L val u->j≠4->Below u.heap.size u u'->(j=0->m ρ (fun _=>False) u' exF [z])->(j=1->z=v5)->(j=2->m [] (fun _=>False) u' (.dat .str x) [z])->(j=3->L 4=false/\m [] (fun b=>b<w.heap.size) u' (.dat (.slice .str) [x]) [z])->J (up L j) (upv val j z) u':=by
  rintro L val u j z u' ⟨m0,m1,m2,m3,m4,m5⟩ hj hb c0 c1 c2 c3
  have hwu:L 4=false->w.heap.size<=u.heap.size:=fun h=>(m0 h).size
  have n4:up L j 4=L 4:=by simp [up,Ne.symm hj]
  have v4:upv val j z 4=val 4:=by simp [upv,Ne.symm hj]
  refine ⟨fun h=>?_,fun h=>?_,fun h=>?_,fun h=>?_,fun h h'=>?_,fun h=>?_⟩
  ·rw [n4] at h
   exact (m0 h).trans (hb.mono (hwu h))
  ·by_cases e:0=j
   ·simp only [upv,if_pos e]; exact c0 e.symm
   ·simp only [upv,if_neg e]; simp only [up,if_neg e] at h; exact m_st (Ev.of_below hb) (m1 h)
  ·by_cases e:1=j
   ·simp only [upv,if_pos e]; exact c1 e.symm
   ·simp only [upv,if_neg e]; simp only [up,if_neg e] at h; exact m2 h
  ·by_cases e:2=j
   ·simp only [upv,if_pos e]; exact c2 e.symm
   ·simp only [upv,if_neg e]; simp only [up,if_neg e] at h; exact m_st (Ev.of_below hb) (m3 h)
  ·rw [n4] at h'
   by_cases e:3=j
   ·simp only [upv,if_pos e]; exact (c3 e.symm).2
   ·simp only [upv,if_neg e]; simp only [up,if_neg e] at h; exact m_st (Ev.of_below hb) (m4 h h')
  ·rw [n4] at h
   rw [v4]
   have h5:=m5 h
   refine ⟨?_,h5.2.next hb⟩
   by_cases e:3=j
   ·simp only [up,if_pos e]
   ·simp only [up,if_neg e]; exact h5.1
 obtain ⟨-,bs,cs,b1,b2,b3,b4⟩:=h3
 have b1:ρ[3]?=some (.pointer (some ⟨bs,0,none⟩)):=b1
 obtain ⟨hbs,-⟩:=h3bl bs (inC_blk b1 rfl)
 have hbg:blk v5≠some bs:=fun e=>h3dj bs (inC_blk b1 rfl) (inC_blk q1 e)
 have hcs:∃ fv,cs.toList=[fv]/\∀ u:World,m ρ (fun _=>False) u exF [fv]:=by
  obtain ⟨fv,us,e,ms,e2⟩:=b3
  have e2:us=[]:=e2
  subst e2
  exact ⟨fv,e,fun u=>ms⟩
 have hexf:∀ u:World,m ρ (fun _=>False) u (.cons exF .nil) cs.toList:=by
  obtain ⟨fv,e,h⟩:=hcs
  intro u
  rw [e]
  exact ⟨fv,[],rfl,h u,rfl⟩
 refine regionJ (l:=[⟨some 57,.load 57 (.tmp 4),y0,p0,f0,none⟩,⟨some 58,.move (.tmp 0),y1,p1,f1,none⟩,⟨some 59,.move (.tmp 8),y2,p2,f2,none⟩,⟨some 60,.buildSlice 23 1 #[(0,.tmp 59)],y3,p3,f3,none⟩,⟨some 61,.call { callee:=.builtin .append,args:=#[.tmp 58,.tmp 60],argTypes:=#[23,23] },y4,p4,f4,none⟩,⟨dd,.call { callee:=.value (.tmp 57),args:=#[.tmp 61],argTypes:=at5 },y5,p5,f5,none⟩]) (a0:=a) (w0:=w) EX1_ok.mx J _ _ 5 hf.sz hchk htl ?_ ?_ ?_
 ·exact ⟨fun _=>⟨rfl,rfl,rfl,Nat.le_refl _,fun _ _=>rfl⟩,(fun h=>by cases h),(fun h=>by cases h),(fun h=>by cases h),(fun h=>by cases h),(fun h=>by cases h)⟩
 ·intro j o hj hoj L val a' u hJ hL hmask hr
  have hJ0:=hJ
  obtain ⟨m0,m1,m2,m3,m4,m5⟩:=hJ
  have hst:∀ b,b<w.heap.size->blk v5≠some b->u.heap[b]?=w.heap[b]?:=fun b hb hn=>by
   cases h4:L 4 with
   | false=>exact (m0 h4).block b hb
   | true=>exact (m5 h4).2.gr.block b hb fun e=>hn e.symm
  have hwu:w.heap.size<=u.heap.size:=by
   cases h4:L 4 with
   | false=>exact (m0 h4).size
   | true=>exact (m5 h4).2.gr.size
  have hj5:j=0∨j=1∨j=2∨j=3∨j=4:=by omega
  rcases hj5 with rfl|rfl|rfl|rfl|rfl<;>cases hoj
  ·have hg:=hr (4,none) (by simp)
   have hg:gt a' 4=gt a 4:=hg
   have hwd:Wd 0 ρ (fun _=>False) [(3,CT.box 57 (.cons exF .nil))] u:=⟨fun b h=>h.elim,fun y hy=>by
    have hy:y=(3,CT.box 57 (.cons exF .nil)):=by simpa using hy
    subst hy
    exact ⟨rfl,bs,cs,b1,by rw [hst bs hbs hbg]; exact b2,hexf u,b4⟩⟩
   have:=ev1_ok (ops:=#[]) (ds:=[]) (E:=EX1) (sl:=[(4,.ref 3 0)]) (a:=a') (an:=.no) (r:=exF) (ps:=[]) EX1_ok hwd (fun g=>by simp [nthO]) (o:=⟨some 57,.load 57 (.tmp 4),y0,p0,f0,none⟩) rfl (fun t ht x hx=>by
    have ht:t=4:=by simpa [opL] using ht
    subst ht
    simp only [get?,Nat.beq_refl] at hx
    cases hx
    rw [hg]
    exact s4) (fun g w' hgd=>by cases hgd) rfl trivial
   exact ⟨fun hg=>Does.imp (this.1 trivial) fun z u' ⟨r1,r2⟩=>pure 0 z u' hJ0 (by decide) r2 (fun _=>r1) (fun h=>by cases h) (fun h=>by cases h) (fun h=>by cases h),fun hn=>absurd trivial hn⟩
  ·have hg:gt a' 0=gt a 0:=hr (0,none) (by simp)
   refine ⟨fun _=>does_val (v:=v5) (w':=u) ?_ (pure 1 v5 u hJ0 (by decide) (Below.refl _ _) (fun h=>by cases h) (fun _=>rfl) (fun h=>by cases h) (fun h=>by cases h)),fun hn=>absurd trivial hn⟩
   have hx:a'.eval (.tmp 0)=v5:=hg.trans hgv
   simp [execOp,hx]
  ·have hg:gt a' 8=gt a 8:=hr (8,none) (by simp)
   have hx:a'.eval (.tmp 8)=gt a 8:=hg
   refine ⟨fun _=>does_val (v:=gt a 8) (w':=u) ?_ (pure 2 (gt a 8) u hJ0 (by decide) (Below.refl _ _) (fun h=>by cases h) (fun h=>by cases h) (fun _=>?_) (fun h=>by cases h)),fun hn=>absurd trivial hn⟩
   ·simp [execOp,hx]
   ·obtain ⟨cs,r1,r2⟩:=s8
    exact ⟨cs,r1,r2⟩
  ·have hg:gt a' 59=val 2:=hr (59,some 2) (by simp)
   have h2:=m3 (hmask 2 (by decide))
   have h4:L 4=false:=by
    cases h4:L 4 with
    | false=>rfl
    | true=>have:=(m5 h4).1; rw [hL] at this; cases this
   have hwd:Wd 0 [] (fun b=>b<w.heap.size) [] u:=⟨fun b h=>Nat.lt_of_lt_of_le h hwu,fun y hy=>by cases hy⟩
   have:=ev1_ok (ops:=#[]) (ds:=[]) (E:=EX1) (sl:=[(59,.dat .str x)]) (a:=a') (an:=.dt) (r:=.dat (.slice .str) [x]) (ps:=[]) EX1_ok hwd (fun g=>by simp [nthO]) (o:=⟨some 60,.buildSlice 23 1 #[(0,.tmp 59)],y3,p3,f3,none⟩) rfl (fun t ht z hz=>by
    have ht:t=59:=by simpa [opL,partL] using ht
    subst ht
    simp only [get?,Nat.beq_refl] at hz
    cases hz
    rw [hg]
    obtain ⟨cs,r1,r2⟩:=h2
    exact ⟨cs,r1,r2⟩) (fun g w' hgd=>by cases hgd) rfl trivial
   exact ⟨fun hg=>Does.imp (this.1 trivial) fun z u' ⟨r1,r2⟩=>pure 3 z u' hJ0 (by decide) r2 (fun h=>by cases h) (fun h=>by cases h) (fun h=>by cases h) (fun _=>⟨h4,r1⟩),fun hn=>absurd trivial hn⟩
  ·have hg1:gt a' 58=v5:=(hr (58,some 1) (by simp)).trans (m2 (hmask 1 (by decide)))
   have hg2:gt a' 60=val 3:=hr (60,some 3) (by simp)
   have h3:=m4 (hmask 3 (by decide)) hL
   have hbl:=m0 hL
   have hwd:Wd 0 [] (fun b=>b<w.heap.size) [] u:=⟨fun b h=>Nat.lt_of_lt_of_le h hwu,fun y hy=>by cases hy⟩
   have hrows:=rows_of (u:=.str) (l:=[x]) hwd rfl h3
   rcases hrows with ⟨_,h0⟩|⟨ad,cap,news,e1,n1,n2,n3,n4⟩
   ·cases h0
   have hou:u.ownsRow 0 9 1 v5 l.length xs:=ownsRow_of ho fun b hb=>hbl.block b (hf.bl _ hm5 b (inC_blk q1 hb)).1
   have hft:TyFact Tryz.prog 9 ⟨.str,0,16,0⟩:=EX1_ok.fact (E:=EX1) rfl
   have hsl1:=und_slice (E:=EX1) EX1_ok (T:=23) (e:=⟨.slice .str,9,24,0⟩) rfl rfl
   have hln:l.length+1<=3:=by
    have h1:=hp.1
    have h2:=hp.2.1.1
    rw [List.length_append,List.length_singleton] at h1
    omega
   obtain ⟨v',u',r1,r2,r3,r4⟩:=run_append_k (P:=Tryz.prog) (w:=u) (T:=23) (ty:=y4) (B:=0) (n:=l.length) (m:=1) (cap:=cap) (v:=v5) (ad:=ad) (xs:=xs) (news:=news) hsl1 hft (Nat.zero_le _) (by decide) hou n1 n3 n2 (by decide) (by simp only [maxLen]; omega) (by show (l.length+1)*16<=_; omega)
   have hx1:a'.eval (.tmp 58)=v5:=hg1
   have hx2:a'.eval (.tmp 60)=.slice (some ad) 1 cap:=hg2.trans e1
   have hgw:Gw w u' 9 v5 v' l x:=by
    have hob:v5.ownBlock=blk v5:=ownB (own_form ho)
    rw [hob] at r3
    refine ⟨⟨r3.os.trans hbl.os,r3.tape.trans hbl.tape,r3.output.trans hbl.output,Nat.le_trans hwu r3.size,fun b hb hn=>(r3.block b (by omega) hn).trans (hbl.block b hb)⟩,⟨xs++news,?_,?_,?_⟩,r4.imp id fun ⟨t1,t2⟩=>⟨fun b hb=>Nat.le_trans hwu (t1 b hb),fun b hb=>(t2 b (by omega)).trans (hbl.block b hb)⟩⟩
    ·rw [List.length_append,List.length_singleton]; exact r2
    ·intro c hc
     rcases List.mem_append.1 hc with hc|hc
     ·exact hone c hc
     ·exact n3 c hc
    ·exact drop_app (t:=.str) (w:=u') (X:=fun _=>False) ho.1 (fun i s hi=>str_part (hrp i s hi)) (fun i s hi=>str_part (n4 i s hi))
   refine ⟨fun _=>does_val (v:=v') (w':=u') ?_ ?_,fun hn=>absurd trivial hn⟩
   ·have r1':(Builtin.append_ #[23,23] y4 #[v5,.slice (some ad) 1 cap]).run EX1.P u=.ok v' u':=r1
    simp [execOp,resolve,invoke,builtin,hx1,hx2,r1']
   ·refine ⟨fun h=>?_,fun h=>?_,fun h=>?_,fun h=>?_,fun h h'=>?_,fun h=>?_⟩
    ·simp [up] at h
    ·simp only [up,if_neg (show ¬(0=4) by decide)] at h
     simp only [upv,if_neg (show ¬(0=4) by decide)]
     exact m1 h
    ·simp only [up,if_neg (show ¬(1=4) by decide)] at h
     simp only [upv,if_neg (show ¬(1=4) by decide)]
     exact m2 h
    ·simp only [up,if_neg (show ¬(2=4) by decide)] at h
     simp only [upv,if_neg (show ¬(2=4) by decide)]
     obtain ⟨cs,t1,t2⟩:=m3 h
     exact ⟨cs,t1,t2⟩
    ·simp [up] at h'
    ·simp only [up,upv,if_neg (show ¬(3=4) by decide),if_true]
     exact ⟨hmask 3 (by decide),hgw⟩
 ·intro val u hJ
  obtain ⟨m0,m1,m2,m3,m4,m5⟩:=hJ
  have m1:=m1 (by decide)
  have hgw:=(m5 (by decide)).2
  obtain ⟨us,hfv,hus⟩:=m1
  have hfv:=(List.cons.inj hfv).1
  obtain ⟨hX1,hf1⟩:=fwd hX0 exA_lt exA_all exA_ok hf q1 hgw
  have hge:∀ t,t<a.tmps.size->t<64:=fun t ht=>by rw [hf.sz] at ht; exact ht
  have hlt:∀ t,t<64->t<a.tmps.size:=fun t ht=>by rw [hf.sz]; exact ht
  have gp:=fun t (ht:t<64)=>gt_puts a val [⟨some 57,.load 57 (.tmp 4),y0,p0,f0,none⟩,⟨some 58,.move (.tmp 0),y1,p1,f1,none⟩,⟨some 59,.move (.tmp 8),y2,p2,f2,none⟩,⟨some 60,.buildSlice 23 1 #[(0,.tmp 59)],y3,p3,f3,none⟩,⟨some 61,.call { callee:=.builtin .append,args:=#[.tmp 58,.tmp 60],argTypes:=#[23,23] },y4,p4,f4,none⟩,⟨dd,.call { callee:=.value (.tmp 57),args:=#[.tmp 61],argTypes:=at5 },y5,p5,f5,none⟩] t (hlt t ht) 5 (show 5<=6 by decide)
  have x57:=gp 57 (by decide)
  have x61:=gp 61 (by decide)
  rw [show lw _ _ 57 5=some 0 from rfl] at x57
  rw [show lw _ _ 61 5=some 4 from rfl] at x61
  have xlow:∀ t,t<57->gt (puts a (List.take 5 [⟨some 57,.load 57 (.tmp 4),y0,p0,f0,none⟩,⟨some 58,.move (.tmp 0),y1,p1,f1,none⟩,⟨some 59,.move (.tmp 8),y2,p2,f2,none⟩,⟨some 60,.buildSlice 23 1 #[(0,.tmp 59)],y3,p3,f3,none⟩,⟨some 61,.call { callee:=.builtin .append,args:=#[.tmp 58,.tmp 60],argTypes:=#[23,23] },y4,p4,f4,none⟩,⟨dd,.call { callee:=.value (.tmp 57),args:=#[.tmp 61],argTypes:=at5 },y5,p5,f5,none⟩]) val 0) t=gt a t:=fun t ht=>puts_nw fun o ho=>by
   simp only [List.take,List.mem_cons,List.not_mem_nil,or_false] at ho
   rcases ho with rfl|rfl|rfl|rfl|rfl<;>(exact nwO_of (by omega))
  have xd:=puts_defers (List.take 5 [⟨some 57,.load 57 (.tmp 4),y0,p0,f0,none⟩,⟨some 58,.move (.tmp 0),y1,p1,f1,none⟩,⟨some 59,.move (.tmp 8),y2,p2,f2,none⟩,⟨some 60,.buildSlice 23 1 #[(0,.tmp 59)],y3,p3,f3,none⟩,⟨some 61,.call { callee:=.builtin .append,args:=#[.tmp 58,.tmp 60],argTypes:=#[23,23] },y4,p4,f4,none⟩,⟨dd,.call { callee:=.value (.tmp 57),args:=#[.tmp 61],argTypes:=at5 },y5,p5,f5,none⟩]) a val 0
  have xs:=puts_size (List.take 5 [⟨some 57,.load 57 (.tmp 4),y0,p0,f0,none⟩,⟨some 58,.move (.tmp 0),y1,p1,f1,none⟩,⟨some 59,.move (.tmp 8),y2,p2,f2,none⟩,⟨some 60,.buildSlice 23 1 #[(0,.tmp 59)],y3,p3,f3,none⟩,⟨some 61,.call { callee:=.builtin .append,args:=#[.tmp 58,.tmp 60],argTypes:=#[23,23] },y4,p4,f4,none⟩,⟨dd,.call { callee:=.value (.tmp 57),args:=#[.tmp 61],argTypes:=at5 },y5,p5,f5,none⟩]) a val 0
  generalize puts a (List.take 5 [⟨some 57,.load 57 (.tmp 4),y0,p0,f0,none⟩,⟨some 58,.move (.tmp 0),y1,p1,f1,none⟩,⟨some 59,.move (.tmp 8),y2,p2,f2,none⟩,⟨some 60,.buildSlice 23 1 #[(0,.tmp 59)],y3,p3,f3,none⟩,⟨some 61,.call { callee:=.builtin .append,args:=#[.tmp 58,.tmp 60],argTypes:=#[23,23] },y4,p4,f4,none⟩,⟨dd,.call { callee:=.value (.tmp 57),args:=#[.tmp 61],argTypes:=at5 },y5,p5,f5,none⟩]) val 0=a5 at *
  refine wpList_plain rfl fun K hK=>?_
  unfold Oper.wp
  have hv57:a5.eval (.tmp 57)=.func (.func 19) #[] us.toArray:=x57.trans hfv
  have hv61:a5.eval (.tmp 61)=val 4:=x61
  rw [execOp_call_val (h:=hv57),callFunc_ok (P:=EX1.P) (f:=19) Tryz.func19 rfl rfl]
  have harr:(#[]++Array.map a5.eval #[.tmp 61])++us.toArray=(val 4::us).toArray:=by
   simp [hv61]
  rw [harr]
  have hih:=ih C R hd D (l++[x]) hp (ρ.set 5 (val 4)) (asd X0 v5 (val 4)) u (val 4) us hX1 hf1 (by rw [List.getElem?_set_self (Nat.lt_of_lt_of_eq (show 5<6 by decide) hf.nx.symm)]) (m_stale (c:=5) (val 4) hus)
  refine Calls.mono hih ?_
  rintro e w2 ⟨rfl,ρ2,hv2,hf2⟩
  refine hK _ _ ?_
  obtain ⟨hb,hb5⟩:=bck (a':=a5.put dd (.tuple #[])) hX0 exA_lt exA_all exA_ok (exA_keys C R (R++chI D hd k (l++[x])) hd D) exA_ok exA_bx exA_nb exA_bx hf q1 hgw hf2 hv2 (by rw [defers_put,xd]; exact hf.dn) (by rw [size_put,xs]; exact hf.sz) (sl2:=sl2) fun t y hy=>by
   obtain ⟨s1,s2,s3⟩:=hsl t y hy
   refine ⟨s1,s2,?_⟩
   rw [gt_put_ne (fun e=>by have:=hdd.2 t e; omega),xlow t s3]
  exact h hok2 hnw2 _ _ _ hb (by rw [gt_put_ne hdd.1,xlow 0 (by decide)]; exact hgv)
theorem ext2 (hlen:l.length<=1000) (hR:R.length<=1000000) (hX0:∀ b,X0 b->b<w0.heap.size) {y0 y1 y2 y3 y4 y5:TypeId} {p0 p1 p2 p3 p4 p5:String} {f0 f1 f2 f3 f4 f5:Array Edge} {at2:Array TypeId}
    (hchk:chk [⟨some 18,.load 24 (.tmp 2),y0,p0,f0,none⟩,⟨some 19,.move (.tmp 0),y1,p1,f1,none⟩,⟨some 20,.call { callee:=.value (.func 20),args:=#[.tmp 19],argTypes:=at2 },y2,p2,f2,none⟩,⟨some 21,.buildSlice 24 1 #[(0,.tmp 20)],y3,p3,f3,none⟩,⟨some 22,.call { callee:=.builtin .append,args:=#[.tmp 18,.tmp 21],argTypes:=#[24,24] },y4,p4,f4,none⟩,⟨none,.store 24 (.tmp 2) (.tmp 22),y5,p5,f5,none⟩] [0,0,2,6,15,31] [[(2,none)],[(0,none)],[(19,some 1)],[(20,some 2)],[(18,some 0),(21,some 3)],[(2,none),(22,some 4)]] 64=true) (htl:tailB [⟨some 18,.load 24 (.tmp 2),y0,p0,f0,none⟩,⟨some 19,.move (.tmp 0),y1,p1,f1,none⟩,⟨some 20,.call { callee:=.value (.func 20),args:=#[.tmp 19],argTypes:=at2 },y2,p2,f2,none⟩,⟨some 21,.buildSlice 24 1 #[(0,.tmp 20)],y3,p3,f3,none⟩,⟨some 22,.call { callee:=.builtin .append,args:=#[.tmp 18,.tmp 21],argTypes:=#[24,24] },y4,p4,f4,none⟩,⟨none,.store 24 (.tmp 2) (.tmp 22),y5,p5,f5,none⟩] [0,0,2,6,15,31] 4=true)
    (g0:get? sl 0=some (.own 5)) (g2:get? sl 2=some (.ref 1 0))
    (h:HsK exAn EX1 w0 X0 Bo 64 Q 0 v k' ⟨[(0,.own 5)],exCk C (R++[l]) hd D l,6⟩) :
    HsK exAn EX1 w0 X0 Bo 64 Q 0 v (.code (.region 2 #[⟨some 18,.load 24 (.tmp 2),y0,p0,f0,none⟩,⟨some 19,.move (.tmp 0),y1,p1,f1,none⟩,⟨some 20,.call { callee:=.value (.func 20),args:=#[.tmp 19],argTypes:=at2 },y2,p2,f2,none⟩,⟨some 21,.buildSlice 24 1 #[(0,.tmp 20)],y3,p3,f3,none⟩,⟨some 22,.call { callee:=.builtin .append,args:=#[.tmp 18,.tmp 21],argTypes:=#[24,24] },y4,p4,f4,none⟩,⟨none,.store 24 (.tmp 2) (.tmp 22),y5,p5,f5,none⟩] true)::k') ⟨sl,exCk C R hd D l,6⟩:=by
 intro hok hnw ρ a w hf hgv
 have hok2:okK exAn 64 k'=true:=by
  simp only [okK,Bool.and_eq_true] at hok
  exact hok.2
 have hnw2:nwK 0 exAn k'=true:=by
  simp only [nwK,Bool.and_eq_true] at hnw
  exact hnw.2
 have hf:Fr w0 X0 Bo 64 ⟨sl,exA C R hd D++[(5,.row 9 .str l)],6⟩ ρ a w:=hf
 have hm5:(5,CT.row 9 .str l)∈exA C R hd D++[(5,CT.row 9 .str l)]:=List.mem_append_right _ List.mem_cons_self
 obtain ⟨v5,xs,q1,ho,hone,hrp⟩:=hf.cs _ hm5
 have q1:ρ[5]?=some v5:=q1
 obtain ⟨v6,q2,_,q3⟩:=hf.sl _ _ g0
 rw [q1] at q2
 cases q2
 have q3:=(List.cons.inj q3).1
 have:v5=v:=q3.symm.trans hgv
 subst this
 have hm1:(1,CT.box 24 (.cons (.own 4) .nil))∈exA C R hd D++[(5,CT.row 9 .str l)]:=by unfold exA; simp
 obtain ⟨-,bs,cs,b1,b2,b3,b4⟩:=hf.cs _ hm1
 have b1:ρ[1]?=some (.pointer (some ⟨bs,0,none⟩)):=b1
 obtain ⟨hbs,-⟩:=hf.bl _ hm1 bs (inC_blk b1 rfl)
 have hown:∀ u:World,m ρ (fun _=>False) u (.cons (.own 4) .nil) cs.toList:=fun u=>b3
 have s2:=hf.sl _ _ g2
 let J:(Nat->Bool)->(Nat->Value)->World->Prop:=fun L val u=>Below w.heap.size w u/\(L 0=true->m ρ (fun _=>False) u (.own 4) [val 0])/\(L 1=true->val 1=v5)/\(L 2=true->m [] (fun b=>b<w.heap.size) u (.dat (.slice .str) l) [val 2])/\(L 3=true->m [] (fun b=>b<w.heap.size) u (.dat (.slice (.slice .str)) [l]) [val 3])
 have pure:∀ {L:Nat->Bool} {val:Nat->Value} {u:World} (j:Nat) (z:Value) (u':World),J L val u->Below u.heap.size u u'->(j=0->m ρ (fun _=>False) u' (.own 4) [z])->(j=1->z=v5)->(j=2->m [] (fun b=>b<w.heap.size) u' (.dat (.slice .str) l) [z])->(j=3->m [] (fun b=>b<w.heap.size) u' (.dat (.slice (.slice .str)) [l]) [z])->J (up L j) (upv val j z) u':=by
  rintro L val u j z u' ⟨m0,m1,m2,m3,m4⟩ hb c0 c1 c2 c3
  refine ⟨m0.trans (hb.mono m0.size),fun h=>?_,fun h=>?_,fun h=>?_,fun h=>?_⟩
  ·by_cases e:0=j
   ·simp only [upv,if_pos e]; exact c0 e.symm
   ·simp only [upv,if_neg e]; simp only [up,if_neg e] at h; exact m_st (Ev.of_below hb) (m1 h)
  ·by_cases e:1=j
   ·simp only [upv,if_pos e]; exact c1 e.symm
   ·simp only [upv,if_neg e]; simp only [up,if_neg e] at h; exact m2 h
  ·by_cases e:2=j
   ·simp only [upv,if_pos e]; exact c2 e.symm
   ·simp only [upv,if_neg e]; simp only [up,if_neg e] at h; exact m_st (Ev.of_below hb) (m3 h)
  ·by_cases e:3=j
   ·simp only [upv,if_pos e]; exact c3 e.symm
   ·simp only [upv,if_neg e]; simp only [up,if_neg e] at h; exact m_st (Ev.of_below hb) (m4 h)
 refine regionJ (l:=[⟨some 18,.load 24 (.tmp 2),y0,p0,f0,none⟩,⟨some 19,.move (.tmp 0),y1,p1,f1,none⟩,⟨some 20,.call { callee:=.value (.func 20),args:=#[.tmp 19],argTypes:=at2 },y2,p2,f2,none⟩,⟨some 21,.buildSlice 24 1 #[(0,.tmp 20)],y3,p3,f3,none⟩,⟨some 22,.call { callee:=.builtin .append,args:=#[.tmp 18,.tmp 21],argTypes:=#[24,24] },y4,p4,f4,none⟩,⟨none,.store 24 (.tmp 2) (.tmp 22),y5,p5,f5,none⟩]) (a0:=a) (w0:=w) EX1_ok.mx J _ _ 4 hf.sz hchk htl ?_ ?_ ?_
 ·exact ⟨⟨rfl,rfl,rfl,Nat.le_refl _,fun _ _=>rfl⟩,(fun h=>by cases h),(fun h=>by cases h),(fun h=>by cases h),(fun h=>by cases h)⟩
 ·intro j o hj hoj L val a' u hJ hL hmask hr
  have hJ0:=hJ
  obtain ⟨m0,m1,m2,m3,m4⟩:=hJ
  have hj4:j=0∨j=1∨j=2∨j=3:=by omega
  rcases hj4 with rfl|rfl|rfl|rfl<;>cases hoj
  ·have hg:gt a' 2=gt a 2:=hr (2,none) (by simp)
   have hwd:Wd 0 ρ (fun _=>False) [(1,CT.box 24 (.cons (.own 4) .nil))] u:=⟨fun b h=>h.elim,fun y hy=>by
    have hy:y=(1,CT.box 24 (.cons (.own 4) .nil)):=by simpa using hy
    subst hy
    exact ⟨rfl,bs,cs,b1,by rw [m0.block bs hbs]; exact b2,hown u,b4⟩⟩
   have:=ev1_ok (ops:=#[]) (ds:=[]) (E:=EX1) (sl:=[(2,.ref 1 0)]) (a:=a') (an:=.no) (r:=.own 4) (ps:=[]) EX1_ok hwd (fun g=>by simp [nthO]) (o:=⟨some 18,.load 24 (.tmp 2),y0,p0,f0,none⟩) rfl (fun t ht x hx=>by
    have ht:t=2:=by simpa [opL] using ht
    subst ht
    simp only [get?,Nat.beq_refl] at hx
    cases hx
    rw [hg]
    exact s2) (fun g w' hgd=>by cases hgd) rfl trivial
   exact ⟨fun hg=>Does.imp (this.1 trivial) fun z u' ⟨r1,r2⟩=>pure 0 z u' hJ0 r2 (fun _=>r1) (fun h=>by cases h) (fun h=>by cases h) (fun h=>by cases h),fun hn=>absurd trivial hn⟩
  ·have hg:gt a' 0=gt a 0:=hr (0,none) (by simp)
   refine ⟨fun _=>does_val (v:=v5) (w':=u) ?_ (pure 1 v5 u hJ0 (Below.refl _ _) (fun h=>by cases h) (fun _=>rfl) (fun h=>by cases h) (fun h=>by cases h)),fun hn=>absurd trivial hn⟩
   have hx:a'.eval (.tmp 0)=v5:=hg.trans hgv
   simp [execOp,hx]
  ·have hg:gt a' 19=v5:=(hr (19,some 1) (by simp)).trans (m2 (hmask 1 (by decide)))
   have hx:a'.eval (.tmp 19)=v5:=hg
   have hou:u.ownsRow 0 9 1 v5 l.length xs:=ownsRow_of ho fun b hb=>m0.block b (hf.bl _ hm5 b (inC_blk q1 hb)).1
   have hda:m [] (fun _=>False) u (.dat (.slice .str) l) [v5]:=rw_dat (B:=0) (X:=fun _=>False) (T:=9) (t:=.str) ⟨xs,hou,hone,fun i s hi=>str_part (hrp i s hi)⟩ (fun b h=>h) (fun b _ h=>h)
   obtain ⟨hent,hcall⟩:=clsM_ok (l,()) ⟨hlen,trivial⟩
   have hcall:=hcall [] (fun _=>False) u [v5] (fun b h=>h.elim) (fr_fresh rfl rfl fun t x hx=>by cases hx) ⟨v5,[],rfl,m_anti (fun b hb=>by
    rcases hb with hb|⟨y,hy,_⟩
    ·exact .inl hb
    ·cases hy) hda,rfl⟩
   refine ⟨fun _=>?_,fun hn=>absurd trivial hn⟩
   unfold Does
   have hent:∀ args w,(callFunc 20 args).run EX1.P w=.ok (.enter 20 args) w:=hent
   rw [execOp_call_go,show #[]++#[Operand.tmp 19].map a'.eval++#[]=[v5].toArray by simp [hx]]
   rw [hent]
   refine Calls.mono hcall ?_
   rintro e u' ⟨z,ρ',rfl,hf',hz⟩
   refine ⟨z,rfl,pure 2 z u' hJ0 hf'.kp.to_below (fun h=>by cases h) (fun h=>by cases h) (fun _=>?_) (fun h=>by cases h)⟩
   obtain ⟨vz,zs,z1,z2,z3,z4⟩:=hf'.cs (0,.row 9 .str l) List.mem_cons_self
   obtain ⟨vz',y1,_,y3⟩:=hz
   have z1:ρ'[0]?=some vz:=z1
   rw [z1] at y1
   cases y1
   have y3:=(List.cons.inj y3).1
   subst y3
   refine rw_dat (B:=0) (X:=fun b=>b<w.heap.size) (T:=9) (t:=.str) ⟨zs,z2,z3,fun i s hi=>str_part (z4 i s hi)⟩ (fun b h=>h) (fun b hb h=>?_)
   have:=(hf'.bl (0,.row 9 .str l) List.mem_cons_self b (inC_blk z1 hb)).2
   rcases this with h'|h'
   ·have:=m0.size; omega
   ·exact inB_nil h'
  ·have hg:gt a' 20=val 2:=hr (20,some 2) (by simp)
   have h2:=m3 (hmask 2 (by decide))
   have hwd:Wd 0 [] (fun b=>b<w.heap.size) [] u:=⟨fun b h=>Nat.lt_of_lt_of_le h m0.size,fun y hy=>by cases hy⟩
   have:=ev1_ok (ops:=#[]) (ds:=[]) (E:=EX1) (sl:=[(20,.dat (.slice .str) l)]) (a:=a') (an:=.dt) (r:=.dat (.slice (.slice .str)) [l]) (ps:=[]) EX1_ok hwd (fun g=>by simp [nthO]) (o:=⟨some 21,.buildSlice 24 1 #[(0,.tmp 20)],y3,p3,f3,none⟩) rfl (fun t ht z hz=>by
    have ht:t=20:=by simpa [opL,partL] using ht
    subst ht
    simp only [get?,Nat.beq_refl] at hz
    cases hz
    rw [hg]
    exact h2) (fun g w' hgd=>by cases hgd) rfl trivial
   exact ⟨fun hg=>Does.imp (this.1 trivial) fun z u' ⟨r1,r2⟩=>pure 3 z u' hJ0 r2 (fun h=>by cases h) (fun h=>by cases h) (fun h=>by cases h) (fun _=>r1),fun hn=>absurd trivial hn⟩
 ·intro val u hJ
  obtain ⟨m0,m1,m2,m3,m4⟩:=hJ
  have m1:=m1 (by decide)
  have m4:=m4 (by decide)
  have hlt:∀ t,t<64->t<a.tmps.size:=fun t ht=>by rw [hf.sz]; exact ht
  have gp:=fun t (ht:t<64)=>gt_puts a val [⟨some 18,.load 24 (.tmp 2),y0,p0,f0,none⟩,⟨some 19,.move (.tmp 0),y1,p1,f1,none⟩,⟨some 20,.call { callee:=.value (.func 20),args:=#[.tmp 19],argTypes:=at2 },y2,p2,f2,none⟩,⟨some 21,.buildSlice 24 1 #[(0,.tmp 20)],y3,p3,f3,none⟩,⟨some 22,.call { callee:=.builtin .append,args:=#[.tmp 18,.tmp 21],argTypes:=#[24,24] },y4,p4,f4,none⟩,⟨none,.store 24 (.tmp 2) (.tmp 22),y5,p5,f5,none⟩] t (hlt t ht) 4 (show 4<=6 by decide)
  have x18:=gp 18 (by decide)
  have x21:=gp 21 (by decide)
  rw [show lw _ _ 18 4=some 0 from rfl] at x18
  rw [show lw _ _ 21 4=some 3 from rfl] at x21
  have xlow:∀ t,t<18->gt (puts a (List.take 4 [⟨some 18,.load 24 (.tmp 2),y0,p0,f0,none⟩,⟨some 19,.move (.tmp 0),y1,p1,f1,none⟩,⟨some 20,.call { callee:=.value (.func 20),args:=#[.tmp 19],argTypes:=at2 },y2,p2,f2,none⟩,⟨some 21,.buildSlice 24 1 #[(0,.tmp 20)],y3,p3,f3,none⟩,⟨some 22,.call { callee:=.builtin .append,args:=#[.tmp 18,.tmp 21],argTypes:=#[24,24] },y4,p4,f4,none⟩,⟨none,.store 24 (.tmp 2) (.tmp 22),y5,p5,f5,none⟩]) val 0) t=gt a t:=fun t ht=>puts_nw fun o ho=>by
   simp only [List.take,List.mem_cons,List.not_mem_nil,or_false] at ho
   rcases ho with rfl|rfl|rfl|rfl<;>(exact nwO_of (by omega))
  have xd:=puts_defers (List.take 4 [⟨some 18,.load 24 (.tmp 2),y0,p0,f0,none⟩,⟨some 19,.move (.tmp 0),y1,p1,f1,none⟩,⟨some 20,.call { callee:=.value (.func 20),args:=#[.tmp 19],argTypes:=at2 },y2,p2,f2,none⟩,⟨some 21,.buildSlice 24 1 #[(0,.tmp 20)],y3,p3,f3,none⟩,⟨some 22,.call { callee:=.builtin .append,args:=#[.tmp 18,.tmp 21],argTypes:=#[24,24] },y4,p4,f4,none⟩,⟨none,.store 24 (.tmp 2) (.tmp 22),y5,p5,f5,none⟩]) a val 0
  have xs:=puts_size (List.take 4 [⟨some 18,.load 24 (.tmp 2),y0,p0,f0,none⟩,⟨some 19,.move (.tmp 0),y1,p1,f1,none⟩,⟨some 20,.call { callee:=.value (.func 20),args:=#[.tmp 19],argTypes:=at2 },y2,p2,f2,none⟩,⟨some 21,.buildSlice 24 1 #[(0,.tmp 20)],y3,p3,f3,none⟩,⟨some 22,.call { callee:=.builtin .append,args:=#[.tmp 18,.tmp 21],argTypes:=#[24,24] },y4,p4,f4,none⟩,⟨none,.store 24 (.tmp 2) (.tmp 22),y5,p5,f5,none⟩]) a val 0
  generalize puts a (List.take 4 [⟨some 18,.load 24 (.tmp 2),y0,p0,f0,none⟩,⟨some 19,.move (.tmp 0),y1,p1,f1,none⟩,⟨some 20,.call { callee:=.value (.func 20),args:=#[.tmp 19],argTypes:=at2 },y2,p2,f2,none⟩,⟨some 21,.buildSlice 24 1 #[(0,.tmp 20)],y3,p3,f3,none⟩,⟨some 22,.call { callee:=.builtin .append,args:=#[.tmp 18,.tmp 21],argTypes:=#[24,24] },y4,p4,f4,none⟩,⟨none,.store 24 (.tmp 2) (.tmp 22),y5,p5,f5,none⟩]) val 0=a5 at *
  have hfu:=hf.pure hX0 m0 (d:=none) (r:=.any) (v:=undef) (fun t h=>by cases h) ⟨undef,rfl⟩
  have hXw:∀ b,XX X0 ρ (exA C R hd D++[(5,CT.row 9 .str l)]) b->b<w.heap.size:=hf.xlt hX0
  have hf5:Fr w0 X0 Bo 64 ⟨[(18,.own 4),(21,.dat (.slice (.slice .str)) [l]),(2,.ref 1 0),(0,.own 5)],exCk C R hd D l,6⟩ ρ a5 u:=by
   refine ⟨by rw [xd]; exact hf.dn,by rw [xs]; exact hf.sz,hfu.kp,hfu.nx,hfu.nd,hfu.kn,hfu.bl,hfu.dj,hfu.cs,fun t y hy=>?_,hfu.pn⟩
   have hy:=get?_mem hy
   simp only [List.mem_cons,Prod.mk.injEq,List.not_mem_nil,or_false] at hy
   rcases hy with ⟨rfl,rfl⟩|⟨rfl,rfl⟩|⟨rfl,rfl⟩|⟨rfl,rfl⟩
   ·rw [x18]; exact m1
   ·rw [x21]
    exact m_anti (fun b hb=>.inl (hXw b hb)) (show m ρ (fun b=>b<w.heap.size) u (.dat (.slice (.slice .str)) [l]) [val 3] from m4)
   ·rw [xlow 2 (by decide)]; exact s2
   ·rw [xlow 0 (by decide),hgv]; exact ⟨v5,q1,by obtain ⟨_,_,_,e⟩:=own_form ho; rw [e]; rfl,rfl⟩
  refine wpList_nw (t:=0) (v:=v5) (Q:=fun e a' w'=>e=.normal/\∃ ρ',Fr w0 X0 Bo 64 ⟨[(0,.own 5)],exCk C (R++[l]) hd D l,6⟩ ρ' a' w') (fun e a w hne h=>absurd h.1 hne) (fun a' w' ⟨_,ρ',hfe⟩ hv'=>h hok2 hnw2 ρ' a' w' hfe hv') (fun o ho=>?_) (by rw [xlow 0 (by decide)]; exact hgv) ?_
  ·simp only [List.drop,List.mem_cons,List.not_mem_nil,or_false] at ho
   rcases ho with rfl|rfl
   ·exact nwO_of (by decide)
   ·rfl
  ·refine seq_ok (E:=EX1) (ann:=[]) EX1_ok hX0 (dsts_ok _) hf5 (ps0:=[]) (by unfold exCk exA; dsimp only [go_sem,List.cons_append,List.nil_append]; rfl) ?hp ?hok ?hq
   case hp =>
    dsimp only [go_sem]
    refine ⟨?_,rfl,trivial⟩
    rw [List.length_singleton]
    omega
   case hok =>
    intro o ho
    simp only [List.drop,List.mem_cons,List.not_mem_nil,or_false] at ho
    rcases ho with rfl|rfl<;>rfl
   case hq =>
    intro ρ' a' w' hfe
    have hfe:Fr w0 X0 Bo 64 ⟨[(22,.own 4),(18,.any),(21,.dat (.slice (.slice .str)) [l]),(2,.ref 1 0),(0,.own 5)],exCk C (R++[l]) hd D l,6⟩ ρ' a' w':=hfe
    exact ⟨rfl,ρ',hfe.slots fun t y hy=>by
     have hy:=get?_mem hy
     simp only [List.mem_cons,Prod.mk.injEq,List.not_mem_nil,or_false] at hy
     obtain ⟨rfl,rfl⟩:=hy
     rfl⟩
end
end Go.Proofs.YtdobkkhncfifeabGreat.Gx
namespace Go.Proofs.YtdobkkhncfifeabGreat.Gx
open Go Go.RowKit Tw B Nt
set_option linter.unusedVariables false
set_option linter.unusedSimpArgs false
set_option maxHeartbeats 40000000
set_option maxRecDepth 20000
attribute [go_sem] exS exAn
theorem candI_len {D:List Cq} {hd:List Str} {n:Nat} (hD:∀ c∈D,(vrs (trm c)).length<=30) (hn:n<D.length):(candI D hd n).length<=30:=Nat.le_trans (List.length_filter_le _ _) (Nat.le_trans (List.length_filter_le _ _) (hD _ (getDm (l:=D) cz hn)))
theorem chI_len {D:List Cq} {hd:List Str} (hD:∀ c∈D,(vrs (trm c)).length<=30):∀ (k:Nat) {l:List Str},l.length+k=D.length->(chI D hd k l).length<=30 ^ k
 | 0,l,_=>by
  unfold chI
  simp
 | k+1,l,h=>by
  unfold chI
  have h1:(candI D hd l.length).length<=30:=candI_len hD (by omega)
  have h2:=flat_len (C:=candI D hd l.length) (f:=fun x=>if fitI D l x=true then chI D hd k (l++[x]) else []) (b:=30 ^ k) fun x _=>by
   split
   ·exact chI_len hD k (by rw [List.length_append,List.length_singleton]; omega)
   ·simp
  have h3:(candI D hd l.length).length*30 ^ k<=30*30 ^ k:=Nat.mul_le_mul_right _ h1
  rw [Nat.pow_succ,Nat.mul_comm (30 ^ k)]
  exact Nat.le_trans h2 h3
theorem gt_args {vs:List Value} {n t:Nat} {x:Value} (h:vs[t]?=some x):gt { tmps:=vs.toArray++Array.replicate n undef,defers:=[] } t=x:=by
 have ht:t<vs.length:=by
  rcases Nat.lt_or_ge t vs.length with h'|h'
  ·exact h'
  ·rw [List.getElem?_eq_none h'] at h; cases h
 unfold gt
 rw [Array.getD_eq_getD_getElem?,Array.getElem?_append_left (by simpa using ht)]
 simp [h]
theorem extK (k:Nat) (ih:∀ j,j+1=k->ExtOk j):ExtOk k:=by
 intro C R hd D l hp ρ0 X w v vs hX hfr hv hm
 obtain ⟨R0,hR0⟩:∃ R0:Act->World->Prop,R0=fun a w'=>a.defers=[]/\∃ ρ',ρ'[5]?=some v/\Fr w X ρ0 0 ⟨[],exCk C (R++chI D hd k l) hd D l,6⟩ ρ' act0 w':=⟨_,rfl⟩
 obtain ⟨Q,hQ⟩:∃ Q:Exit->Act->World->Prop,Q=fun e a w'=>e=.ret/\R0 a w':=⟨_,rfl⟩
 have hend:∀ {sl:List (Nat×AV)} {ρ:List Value} {a:Act} {w':World},get? sl 0=some (.own 5)->Fr w X ρ0 64 ⟨sl,exCk C (R++chI D hd k l) hd D l,6⟩ ρ a w'->gt a 0=v->R0 a w':=by
  intro sl ρ a w' hg hf hgv
  rw [hR0]
  obtain ⟨v6,q2,_,q3⟩:=hf.sl _ _ hg
  have q3:=(List.cons.inj q3).1
  exact ⟨hf.dn,ρ,by rw [q2,<-q3,hgv],fr_unfacts hf⟩
 have hnb:(6:Nat)=ρ0.length:=hfr.nx.symm
 have hfin:∀ st ρ a w',finP (exS 64) st->Fr w X ρ0 (exS 64).N st ρ a w'->gt a 0=v->Q .ret a w'/\Q .normal a w':=by
  intro st ρ a w' hfp hf hgv
  exfalso
  unfold finP at hfp
  split at hfp
  ·obtain ⟨_,⟨⟨h6,_⟩,_⟩⟩:=hfp
   exact absurd h6 (by decide)
  ·exact hfp
 obtain ⟨body,hbody⟩:∃ c,(Tryz.f19).body=some c:=⟨_,rfl⟩
 have key:HsK exAn EX1 w X ρ0 64 Q 0 v [.code body,.mark R0] ⟨[(0,.own 5),(1,.ref 0 0),(2,.ref 1 0),(3,.ref 2 0),(4,.ref 3 0)],exCk C R hd D l,6⟩:=by
  have hK:HKOk (exS 64) (HsK exAn EX1 w X ρ0 64 Q 0 v):=hsK_ok (S:=exS 64) hnb EX1_ok hX hfin
  cases hbody
  obtain ⟨H,hH0⟩:∃ H,HsK exAn EX1 w X ρ0 64 Q 0 v=H:=⟨_,rfl⟩
  rw [hH0] at hK ⊢
  refine hK.run 100 _ _ ?_
  unfold exCk exA
  dsimp only [go_sem,List.cons_append,List.nil_append]
  obtain ⟨hlk,⟨hD3,hhd,hP⟩,⟨hCl,hCi⟩,hRl⟩:=hp
  have hcap:R.length+30 ^ k<=1000000:=hRl
  refine ⟨fun d=>?_,fun d=>?_⟩
  ·have d:(l.length:Int)=(C.length:Int):=of_decide_eq_true d
   have hk0:k=0:=by omega
   subst hk0
   rw [<-hH0]
   refine ext2 (C:=C) (R:=R) (hd:=hd) (D:=D) (l:=l) (by omega) (by omega) hX (by kernel_rfl) (by kernel_rfl) rfl rfl ?_
   intro hok hnw ρ a w' hf hgv
   refine wp_ret (sem_ret ?_)
   rw [hQ]
   exact ⟨rfl,hend rfl hf hgv⟩
  have d:¬(l.length:Int)=(C.length:Int):=of_decide_eq_false d
  obtain ⟨j,rfl⟩:∃ j,k=j+1:=⟨k-1,by omega⟩
  have hn:l.length<D.length:=by omega
  have hbC:(0:Int)<=(l.length:Int)/\(l.length:Int)<(C.length:Int):=by omega
  refine ⟨hbC,?_⟩
  have hzC:C.getD (l.length:Int).toNat (zd (.slice .str))=candI D hd l.length:=by
   rw [Int.toNat_natCast]
   exact hCi _ hn
  rw [hzC]
  obtain ⟨cs,hcs⟩:∃ cs,candI D hd l.length=cs:=⟨_,rfl⟩
  have hcl:cs.length<=30:=by
   rw [<-hcs]
   exact Nat.le_trans (List.length_filter_le _ _) (Nat.le_trans (List.length_filter_le _ _) (hP _ (getDm (l:=D) cz hn)).2)
  have hchI:chI D hd (j+1) l=cs.flatMap fun x=>if fitI D l x=true then chI D hd j (l++[x]) else []:=by
   rw [<-hcs]; rfl
  rw [hcs]
  rw [hchI] at hend hR0
  generalize hf:(fun x=>if fitI D l x=true then chI D hd j (l++[x]) else [])=f at hend hR0
  refine hK.loop (fun i:Nat=>⟨[(28,.dat (.int .i64) (i:Int)),(27,.dat (.int .i64) (List.length cs:Int)),(26,.dat (.slice .str) cs),(6,.dat (.int .i64) (List.length l:Int)),(0,.own 5),(1,.ref 0 0),(2,.ref 1 0),(3,.ref 2 0),(4,.ref 3 0)],exCk C (R++(cs.take i).flatMap f) hd D l,6⟩) (fun i=>i<=cs.length) (fun i=>cs.length-i) 0 6 (Nat.zero_le _) ?_ ?_
  ·unfold exCk exA
   dsimp only [go_sem,List.cons_append,List.nil_append]
   and_intros<;>first|trivial|rfl|omega|exact (List.append_nil R).symm
  ·rintro i hi R1 hm1
   refine hK.run 100 _ _ ?_
   unfold exCk exA
   dsimp only [go_sem,List.cons_append,List.nil_append]
   simp only [Int.toNat_natCast]
   refine ⟨fun d=>?_,fun d=>?_⟩
   ·have d:i<cs.length:=by
      have d:(i:Int)<(cs.length:Int):=of_decide_eq_true d
      omega
    have hbi:(0:Int)<=(i:Int)/\(i:Int)<(cs.length:Int):=by omega
    have hi3:=d
    refine ⟨hbi,?_⟩
    obtain ⟨x,hx⟩:∃ x,cs.getD i (zd .str)=x:=⟨_,rfl⟩
    rw [hx]
    have hP':∀ c∈D,cqP c:=fun c hc=>(hP c hc).1
    refine hK.loop (fun j:Nat=>⟨[(34,.dat (.int .i64) (j:Int)),(33,.dat (.int .i64) (List.length l:Int)),(32,.own 5),(9,.dat .bool ((List.range j).all fun i=>cptB (D.getD i cz) (l.getD i []) (D.getD l.length cz) x)),(8,.dat .str x),(28,.dat (.int .i64) (i:Int)),(27,.dat (.int .i64) (List.length cs:Int)),(26,.dat (.slice .str) cs),(6,.dat (.int .i64) (List.length l:Int)),(0,.own 5),(1,.ref 0 0),(2,.ref 1 0),(3,.ref 2 0),(4,.ref 3 0)],exCk C (R++(cs.take i).flatMap f) hd D l,6⟩) (fun j=>j<=l.length) (fun j=>l.length-j) 0 6 (Nat.zero_le _) ?_ ?_
    ·unfold exCk exA
     dsimp only [go_sem,List.cons_append,List.nil_append]
     and_intros<;>first|trivial|rfl|omega
    ·rintro q hq R2 hm2
     refine hK.run 100 _ _ ?_
     unfold exCk exA
     dsimp only [go_sem,List.cons_append,List.nil_append]
     have hzD:∀ k,D.getD k (zd cqT)=D.getD k cz:=fun _=>rfl
     have hzl:∀ k,l.getD k (zd .str)=l.getD k []:=fun _=>rfl
     simp only [Int.toNat_natCast,hzD,hzl,imp_self,true_and]
     have hsn:((List.range (q+1)).all fun i=>cptB (D.getD i cz) (l.getD i []) (D.getD l.length cz) x)=(((List.range q).all fun i=>cptB (D.getD i cz) (l.getD i []) (D.getD l.length cz) x)&&cptB (D.getD q cz) (l.getD q []) (D.getD l.length cz) x):=by
      rw [List.range_succ,List.all_append]
      simp
     refine ⟨fun d=>?_,fun d=>?_⟩
     ·have d:q<l.length:=by
        have d:(q:Int)<(l.length:Int):=of_decide_eq_true d
        omega
      rw [<-hsn]
      have e1:(0:Int)<=(q:Int)/\(q:Int)<(l.length:Int):=by omega
      have e2:(0:Int)<=(q:Int)/\(q:Int)<(D.length:Int):=by omega
      have e3:(0:Int)<=(l.length:Int)/\(l.length:Int)<(D.length:Int):=by omega
      have e4:inR .i64 ((q:Int)+1):=by rw [inR_i64]; omega
      have e5:l.length-(q+1)<l.length-q:=by omega
      refine ⟨e1,d,fun _=>e2,fun _=>e3,fun _=>hP' _ (getDm (l:=D) cz (by omega)),fun _=>hP' _ (getDm (l:=D) cz hn),e4,hm2 _ (q+1) 6 d e5 ?_⟩
      unfold exCk exA
      dsimp only [go_sem,List.cons_append,List.nil_append]
      and_intros<;>first|trivial|rfl|omega
     ·have d:¬(q:Int)<(l.length:Int):=of_decide_eq_false d
      have hq2:q=l.length:=by omega
      subst hq2
      have hfit:((List.range l.length).all fun i=>cptB (D.getD i cz) (l.getD i []) (D.getD l.length cz) x)=fitI D l x:=rfl
      have htk:(cs.take (i+1)).flatMap f=(cs.take i).flatMap f++f x:=by
       rw [take_snoc (zd .str) hi3,hx,List.flatMap_append]
       simp
      have e4:inR .i64 ((i:Int)+1):=by rw [inR_i64]; omega
      have e5:cs.length-(i+1)<cs.length-i:=by omega
      rw [hfit]
      refine ⟨fun hb=>?_,fun hb=>⟨e4,hm1 _ (i+1) 6 hi3 e5 ?_⟩⟩
      ·have hfx:f x=chI D hd j (l++[x]):=by
         rw [<-hf]
         exact if_pos hb
       have hpx:exP j C (R++(cs.take i).flatMap f) hd D (l++[x]):=by
        refine ⟨by rw [List.length_append,List.length_singleton]; omega,⟨hD3,hhd,hP⟩,⟨hCl,hCi⟩,?_⟩
        have h2:=flat_len (C:=cs.take i) (f:=f) (b:=30 ^ j) fun y _=>by
         rw [<-hf]
         dsimp only
         split
         ·exact chI_len (fun c hc=>(hP c hc).2) j (by rw [List.length_append,List.length_singleton]; omega)
         ·simp
        have h3:(cs.take i).length<=i:=List.length_take_le _ _
        have h4:(cs.take i).length*30 ^ j<=i*30 ^ j:=Nat.mul_le_mul_right _ h3
        have h5:(i+1)*30 ^ j<=30*30 ^ j:=Nat.mul_le_mul_right _ (by omega)
        rw [Nat.succ_mul] at h5
        rw [Nat.pow_succ,Nat.mul_comm (30 ^ j)] at hcap
        rw [List.length_append]
        omega
       rw [<-hH0]
       refine ext13 (sl2:=[(28,.dat (.int .i64) (i:Int)),(27,.dat (.int .i64) (List.length cs:Int)),(26,.dat (.slice .str) cs),(6,.dat (.int .i64) (List.length l:Int)),(0,.own 5),(1,.ref 0 0),(2,.ref 1 0),(3,.ref 2 0),(4,.ref 3 0)]) (ih j rfl) hpx hX (by kernel_rfl) (by kernel_rfl) ⟨by decide,fun t h=>by cases h; decide⟩ rfl rfl rfl ?_ ?_
       ·intro t y hy
        have hy:=get?_mem hy
        simp only [List.mem_cons,Prod.mk.injEq,List.not_mem_nil,or_false] at hy
        rcases hy with ⟨rfl,rfl⟩|⟨rfl,rfl⟩|⟨rfl,rfl⟩|⟨rfl,rfl⟩|⟨rfl,rfl⟩|⟨rfl,rfl⟩|⟨rfl,rfl⟩|⟨rfl,rfl⟩|⟨rfl,rfl⟩<;>exact ⟨rfl,rfl,by decide⟩
       ·rw [hH0]
        refine hK.run 100 _ _ ?_
        unfold exCk exA
        dsimp only [go_sem,List.cons_append,List.nil_append]
        refine ⟨e4,hm1 _ (i+1) 6 hi3 e5 ?_⟩
        rw [htk,hfx,<-List.append_assoc]
        unfold exCk exA
        dsimp only [go_sem,List.cons_append,List.nil_append]
        and_intros<;>first|trivial|rfl|omega
      ·have hfx:f x=[]:=by
         rw [<-hf]
         exact if_neg (by rw [hb]; decide)
       rw [htk,hfx,List.append_nil]
       unfold exCk exA
       dsimp only [go_sem,List.cons_append,List.nil_append]
       and_intros<;>first|trivial|rfl|omega
   ·have d:¬(i:Int)<(cs.length:Int):=of_decide_eq_false d
    have hi2:i=cs.length:=by omega
    subst hi2
    rw [<-hH0]
    intro hok hnw ρ a w' hfr' hgv
    rw [List.take_length] at hfr'
    exact hend rfl hfr' hgv
 have hok1:okK exAn 64 [.code body,.mark R0]=true:=by
  cases hbody
  simp only [okK,Bool.and_true]
  kernel_rfl
 have hnw1:nwK 0 exAn [.code body,.mark R0]=true:=by
  cases hbody
  simp only [nwK,Bool.and_true]
  kernel_rfl
 obtain ⟨u0,us0,e0,⟨_,b0,r0,rb0,rv0⟩,u1,us1,e1,⟨_,b1,r1,rb1,rv1⟩,u2,us2,e2,⟨_,b2,r2,rb2,rv2⟩,u3,us3,e3,⟨_,b3,r3,rb3,rv3⟩,e4⟩:=hm
 have e4:us3=[]:=e4
 subst e4
 subst e3
 subst e2
 subst e1
 subst e0
 have rv0:=(List.cons.inj rv0).1
 have rv1:=(List.cons.inj rv1).1
 have rv2:=(List.cons.inj rv2).1
 have rv3:=(List.cons.inj rv3).1
 have hm5:(5,CT.row 9 .str l)∈exCk C R hd D l:=List.mem_append_right _ List.mem_cons_self
 obtain ⟨v5,xs,q1,ho,hone,hrp⟩:=hfr.cs _ hm5
 have q1:ρ0[5]?=some v5:=q1
 rw [hv] at q1
 cases q1
 have hone5:v.oneCell'=true:=by
  obtain ⟨_,_,_,e⟩:=own_form ho
  rw [e]; rfl
 obtain ⟨a0,ha0⟩:∃ a0:Act,({ tmps:=(v::[u0,u1,u2,u3]).toArray++Array.replicate ((Tryz.f19).ntmps-(v::[u0,u1,u2,u3]).toArray.size) undef,defers:=[] }:Act)=a0:=⟨_,rfl⟩
 have k0:gt a0 0=v:=by rw [<-ha0]; exact gt_args rfl
 have k1:gt a0 1=u0:=by rw [<-ha0]; exact gt_args rfl
 have k2:gt a0 2=u1:=by rw [<-ha0]; exact gt_args rfl
 have k3:gt a0 3=u2:=by rw [<-ha0]; exact gt_args rfl
 have k4:gt a0 4=u3:=by rw [<-ha0]; exact gt_args rfl
 have kd:a0.defers=[]:=by rw [<-ha0]
 have ks:a0.tmps.size=64:=by
  rw [<-ha0]
  have:(Tryz.f19).ntmps=64:=rfl
  simp only [Array.size_append,List.size_toArray,Array.size_replicate,this,List.length_cons,List.length_nil]
 have hF:Fr w X ρ0 64 ⟨[(0,.own 5),(1,.ref 0 0),(2,.ref 1 0),(3,.ref 2 0),(4,.ref 3 0)],exCk C R hd D l,6⟩ ρ0 a0 w:=by
  refine ⟨kd,ks,hfr.kp,hfr.nx,hfr.nd,hfr.kn,hfr.bl,hfr.dj,hfr.cs,fun t y hy=>?_,hfr.pn⟩
  have hy:=get?_mem hy
  simp only [List.mem_cons,Prod.mk.injEq,List.not_mem_nil,or_false] at hy
  rcases hy with ⟨rfl,rfl⟩|⟨rfl,rfl⟩|⟨rfl,rfl⟩|⟨rfl,rfl⟩|⟨rfl,rfl⟩
  ·rw [k0]; exact ⟨v,hv,hone5,rfl⟩
  ·rw [k1]; exact ⟨_,b0,r0,rb0,congrArg (fun z=>[z]) rv0⟩
  ·rw [k2]; exact ⟨_,b1,r1,rb1,congrArg (fun z=>[z]) rv1⟩
  ·rw [k3]; exact ⟨_,b2,r2,rb2,congrArg (fun z=>[z]) rv2⟩
  ·rw [k4]; exact ⟨_,b3,r3,rb3,congrArg (fun z=>[z]) rv3⟩
 have hwp:=key hok1 hnw1 ρ0 _ w hF k0
 rw [<-ha0] at hwp
 refine calls_of_wp Tryz.func19 hbody (Code.wp_mono (fun e a w' q=>?_) hwp)
 have fin:R0 a w'->a.defers=[]/\∃ z,(results Tryz.f19 a.tmps).run Tryz.prog w'=.ok z w'/\(Ending.returned z=.returned (.tuple #[])/\∃ ρ',ρ'[5]?=some v/\Fr w X ρ0 0 ⟨[],exCk C (R++chI D hd k l) hd D l,6⟩ ρ' act0 w'):=by
  intro q
  rw [hR0] at q
  refine ⟨q.1,.tuple #[],?_,rfl,q.2⟩
  have:(Tryz.f19).results=#[]:=rfl
  simp [results,this]
 cases e with
 | normal=>exact fin q
 | ret =>
  have q:Q .ret a w':=q
  rw [hQ] at q
  exact fin q.2
 | _ =>
  exfalso
  have q:Q _ a w':=q
  rw [hQ] at q
  cases q.1
theorem ext_ok:∀ k,ExtOk k
 | 0=>extK 0 fun j h=>by omega
 | k+1=>extK (k+1) fun j h=>by cases h; exact ext_ok k
end Go.Proofs.YtdobkkhncfifeabGreat.Gx
