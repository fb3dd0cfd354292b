/-
  MHc: HQ HR HK HU H9 HA in one text.
-/
import Derived.Test.YtdobkkhncfifeabGreatMHb
import Derived.Test.YtdobkkhncfifeabGreatMGc
import Derived.Maps.OwnSet
import Derived.StringKeys
namespace Go.Proofs.YtdobkkhncfifeabGreat.Gx
open Go Go.RowKit Tw B Nt
set_option linter.unusedVariables false
end Go.Proofs.YtdobkkhncfifeabGreat.Gx
namespace Go.Proofs.YtdobkkhncfifeabGreat.Gx
open Go Go.RowKit Tw B Nt
set_option linter.unusedVariables false
end Go.Proofs.YtdobkkhncfifeabGreat.Gx
namespace Go.Proofs.YtdobkkhncfifeabGreat.Gx
open Go Go.RowKit Tw
set_option linter.unusedVariables false
set_option linter.unusedSimpArgs false
set_option maxHeartbeats 4000000
set_option maxRecDepth 20000
section
variable {E:Env} {w0 w1 w2:World} {X0 X1:Nat->Prop} {Bo:List Value} {N:Nat} {st st':St} {ρ:List Value} {a:Act} {w w':World} {Q:Exit->Act->World->Prop} {P:Program} {ps:List Prop}
theorem pre_ok (hE:E.Ok) (hX0:∀ b,X0 b->b<w0.heap.size) {ops:Array Oper} {ds:List (Option Nat)} (hds:∀ g:Nat,nthO ds g=(ops[g]?).map Oper.dst) {ann:List (Nat×An)} {r:List Oper} :
    ∀ {l:List Oper} {st st':St} {ρ:List Value} {a:Act} {w:World} {ps0 ps:List Prop},Fr w0 X0 Bo N st ρ a w->evOps E ann ds l st ps0=some (st',ps)->AllP ps->(∀ o∈l,okOper N o=true) ->
     (∀ ρ' a' w',Fr w0 X0 Bo N st' ρ' a' w'->wpList E.P ops Q r a' w')->wpList E.P ops Q (l++r) a w
 | [],st,st',ρ,a,w,ps0,ps,h,he,hp,hok,hQ=>by cases he; exact hQ _ _ _ h
 | o::l,st,st',ρ,a,w,ps0,ps,h,he,hp,hok,hQ=>by
  simp only [evOps] at he
  split at he
  ·rename_i st1 qs e
   obtain ⟨k,hk⟩:=evOps_pre he
   have hq:AllP qs:=by rw [hk] at hp; exact hp.app.1.app.2
   refine wpList_step fun K hK=>?_
   exact evOp_ok hE h hX0 hds (hok o List.mem_cons_self) e hq fun ρ' a' w' h'=>hK _ _ (pre_ok hE hX0 hds h' he hp (fun o ho=>hok o (List.mem_cons_of_mem _ ho)) hQ)
  ·cases he
theorem region_pre (hE:E.Ok) (hX0:∀ b,X0 b->b<w0.heap.size) {id:Nat} {ops:Array Oper} {ann:List (Nat×An)} {pre post:List Oper} (hl:ops.toList=pre++post) (h:Fr w0 X0 Bo N st ρ a w) {k:List It}
    (he:evOps E ann (dsts ops.toList) pre st []=some (st',ps)) (hp:AllP ps) (hok:pre.all (okOper N)=true) (hQ:∀ ρ' a' w',Fr w0 X0 Bo N st' ρ' a' w'->wpList E.P ops (sem E.P Q k) post a' w') :
    sem E.P Q (.code (.region id ops false)::k) .normal a w:=by
 refine wp_region_list ?_
 have hds:∀ g:Nat,nthO (dsts ops.toList) g=(ops[g]?).map Oper.dst:=fun g=>by have:=dsts_ok ops.toList g; simpa using this
 have:=pre_ok hE hX0 (ops:=ops) (r:=post) (Q:=sem E.P Q k) hds h he hp (fun o ho=>List.all_eq_true.1 hok o ho) hQ
 rwa [<-hl] at this
theorem Fr.base (h:Fr w0 X0 Bo N st ρ a w) (hX0:∀ b,X0 b->b<w0.heap.size) (hb:Below w.heap.size w w2) (hX:∀ b,X1 b->X0 b∨w.heap.size<=b):Fr w2 X1 (mkB ρ st.ck) N st ρ a w2:=by
 have hXX:∀ b,XX X1 ρ st.ck b->XX X0 ρ st.ck b∨w.heap.size<=b:=by
  rintro b (hb|hb)
  ·rcases hX b hb with h'|h'
   ·exact .inl (.inl h')
   ·exact .inr h'
  ·exact .inl (.inr hb)
 refine ⟨h.dn,h.sz,Kept.refl w2,h.nx,h.nd,h.kn,fun x hx b hc=>⟨Nat.lt_of_lt_of_le (h.bl x hx b hc).1 hb.size,.inr (mk_mem hx hc)⟩,h.dj,fun x hx=>?_,fun t x hx=>?_,⟨fun b hc=>?_,?_,fun x hx T l e hl=>(mk_in hx).symm⟩⟩
 ·exact cm_tr (h.cs x hx) hXX (Ev.of_below hb) fun b e=>hb.block b (h.bl x hx b e).1
 ·exact m_st (Ev.of_below hb) (m_anti hXX (h.sl t x hx))
 ·obtain ⟨x,hx,e⟩:=mk_blk hc
  have hl:=h.bl x hx b e
  refine ⟨Nat.lt_of_lt_of_le hl.1 hb.size,fun h1=>?_⟩
  rcases hX b h1 with h'|h'
  ·rcases hl.2 with h3|h3
   ·exact absurd (hX0 b h') (by omega)
   ·exact (h.pn.bo b h3).2 h'
  ·omega
 ·rw [mk_len]; exact Nat.le_of_eq h.nx
theorem fr_fresh {sl:List (Nat×AV)} (hd:a.defers=[]) (hs:a.tmps.size=N) (hsl:∀ t x,get? sl t=some x->m [] X1 w x [gt a t]):Fr w X1 [] N ⟨sl,[],0⟩ [] a w:=by
 have hXX:∀ b,XX X1 [] [] b->X1 b:=by
  rintro b (hb|⟨x,hx,_⟩)
  ·exact hb
  ·cases hx
 refine ⟨hd,hs,Kept.refl w,rfl,List.nodup_nil,(fun x hx=>by cases hx),(fun x hx=>by cases hx),(fun x hx=>by cases hx),(fun x hx=>by cases hx),fun t x hx=>m_anti (fun b hb=>.inl (hXX b hb)) (hsl t x hx),⟨fun b hb=>(inB_nil hb).elim,Nat.zero_le _,fun x hx=>by cases hx⟩⟩
theorem run_h {S:Sx} (hnb:S.nb=Bo.length) (hE:S.E.Ok) (hX0:∀ b,X0 b->b<w0.heap.size) (hfin:∀ st ρ a w,finP S st->Fr w0 X0 Bo S.N st ρ a w->Q .ret a w/\Q .normal a w) {k:List It} {st:St}
    (h:∀ H,HOk S H->(∀ k st,(okK S.an S.N k=true->∀ ρ a w,Fr w0 X0 Bo S.N st ρ a w->sem S.E.P Q k .normal a w)->H k st)->H k st):okK S.an S.N k=true->∀ ρ a w,Fr w0 X0 Bo S.N st ρ a w->sem S.E.P Q k .normal a w :=
 h (Hs S.an S.E w0 X0 Bo S.N Q) (hs_ok hnb hE hX0 hfin) fun _ _ h=>h
theorem Fr.poke {b:Nat} (h:Fr w0 X0 Bo N st ρ a w) (hX0:∀ b,X0 b->b<w0.heap.size) (hb:X0 b) (hs:w'.heap.size=w.heap.size) (hk:∀ k,k≠b->w'.heap[k]?=w.heap[k]?):Fr w' X0 (mkB ρ st.ck) N st ρ a w':=by
 have hne:∀ x∈st.ck,∀ k,inC ρ x.1 k->k≠b:=fun x hx k hc e=>by
  subst e
  rcases (h.bl x hx k hc).2 with h3|h3
  ·exact absurd (hX0 k hb) (by omega)
  ·exact (h.pn.bo k h3).2 hb
 have hEv:Ev (XX X0 ρ st.ck) w w':=⟨Nat.le_of_eq hs.symm,fun k _ hn=>hk k fun e=>hn (by rw [e]; exact .inl hb)⟩
 refine ⟨h.dn,h.sz,Kept.refl w',h.nx,h.nd,h.kn,fun x hx k hc=>⟨by rw [hs]; exact (h.bl x hx k hc).1,.inr (mk_mem hx hc)⟩,h.dj,fun x hx=>?_,fun t x hx=>?_,⟨fun k hc=>?_,?_,fun x hx T l e hl=>(mk_in hx).symm⟩⟩
 ·exact cm_tr (h.cs x hx) (fun k hk=>.inl hk) hEv fun k e=>hk k (hne x hx k e)
 ·exact m_st hEv (h.sl t x hx)
 ·obtain ⟨x,hx,e⟩:=mk_blk hc
  refine ⟨by rw [hs]; exact (h.bl x hx k e).1,fun h1=>?_⟩
  rcases (h.bl x hx k e).2 with h3|h3
  ·exact absurd (hX0 k h1) (by omega)
  ·exact (h.pn.bo k h3).2 h1
 ·rw [mk_len]; exact Nat.le_of_eq h.nx
theorem Fr.low3 (h2:Fr w1 X1 Bo N st ρ a w) (hk:Kept [] w0 w1) (hB:∀ k,inB Bo k->w0.heap.size<=k) (hX:∀ k,X0 k->X1 k):Fr w0 X0 [] N st ρ a w:=by
 have h3:=h2.x0 hX
 have hkp:=h2.kp
 refine ⟨h3.dn,h3.sz,⟨hkp.os.trans hk.os,hkp.tape.trans hk.tape,hkp.output.trans hk.output,Nat.le_trans hk.size hkp.size,fun k hk1 hn=>?_⟩,h3.nx,h3.nd,h3.kn,fun x hx k hc=>⟨(h3.bl x hx k hc).1,.inl ?_⟩,h3.dj,h3.cs,h3.sl,⟨fun k hk=>(inB_nil hk).elim,Nat.zero_le _,fun x hx T l e hl=>absurd hl (Nat.not_lt_zero _)⟩⟩
 ·rw [hkp.block k (Nat.lt_of_lt_of_le hk1 hk.size) fun hc=>absurd (hB k hc) (by omega)]
  exact hk.block k hk1 hn
 ·rcases (h3.bl x hx k hc).2 with h4|h4
  ·exact Nat.le_trans hk.size h4
  ·exact hB k h4
theorem mkB_ge (h:Fr w1 X1 Bo N st ρ a w) (hw:w0.heap.size<=w1.heap.size) (hB:∀ k,inB Bo k->w0.heap.size<=k):∀ k,inB (mkB ρ st.ck) k->w0.heap.size<=k:=by
 intro k hk
 obtain ⟨x,hx,e⟩:=mk_blk hk
 rcases (h.bl x hx k e).2 with h4|h4
 ·exact Nat.le_trans hw h4
 ·exact hB k h4
theorem Fr.slots {sl sl':List (Nat×AV)} {ck:List (Nat×CT)} {nx:Nat} (h:Fr w0 X0 Bo N ⟨sl,ck,nx⟩ ρ a w) (hs:∀ t x,get? sl' t=some x->get? sl t=some x):Fr w0 X0 Bo N ⟨sl',ck,nx⟩ ρ a w :=
 ⟨h.dn,h.sz,h.kp,h.nx,h.nd,h.kn,h.bl,h.dj,h.cs,fun t x hx=>h.sl t x (hs t x hx),h.pn⟩
theorem Kept.poke {b:Nat} (h:Kept [] w0 w) (hs:w'.heap.size=w.heap.size) (hk:∀ k,k≠b->w'.heap[k]?=w.heap[k]?) (ho:w'.os=w.os/\w'.tape=w.tape/\w'.output=w.output) (hb:w0.heap.size<=b):Kept [] w0 w' :=
 ⟨ho.1.trans h.os,ho.2.1.trans h.tape,ho.2.2.trans h.output,by rw [hs]; exact h.size,fun k h1 hn=>by rw [hk k (by omega)]; exact h.block k h1 hn⟩
end
end Go.Proofs.YtdobkkhncfifeabGreat.Gx
namespace Go.Proofs.YtdobkkhncfifeabGreat.Gx
open Go Go.RowKit Tw B Nt
set_option linter.unusedVariables false
set_option linter.unusedSimpArgs false
set_option maxHeartbeats 4000000
set_option maxRecDepth 20000
section
variable {E:Env} {w0 w1 w2:World} {X0 X1:Nat->Prop} {Bo:List Value} {N:Nat} {st st':St} {ρ:List Value} {a:Act} {w w':World} {Q:Exit->Act->World->Prop} {P:Program} {ps:List Prop}
end
def sjB (l:List Atom):Bool:=decide (l.map fun a=>a.1).Nodup
end Go.Proofs.YtdobkkhncfifeabGreat.Gx
namespace Go.Proofs.YtdobkkhncfifeabGreat.Gx
open Go Go.RowKit Tw B Nt
set_option linter.unusedVariables false
set_option linter.unusedSimpArgs false
set_option maxHeartbeats 4000000
set_option maxRecDepth 20000
@[reducible,go_sem] def tokT:Ty:=.pair (.int .i64) .str
abbrev Tok:=Int×Str
theorem imp2 {p q:Prop}:(p->q->p/\q)=True:=eq_true fun a b=>⟨a,b⟩
def letr (c:Int):Bool:=(decide (97<=c)&&decide (c<=122))||(decide (65<=c)&&decide (c<=90))
def digr (c:Int):Bool:=decide (48<=c)&&decide (c<=57)
@[go_sem] def letS:Spec:=⟨[.int .u8],fun d=>(.dat .bool (letr d.1),[])⟩
theorem let_ok:SpecOk Tryz.prog 58 letS:=by
 refine fn_ok EH15_ok letS Tryz.func58 rfl (by decide) (N:=17) rfl (res:=[.tmp 2]) rfl (by decide) [] [] [] 100 (by kernel_rfl) ?_
 rintro ⟨(c:Int),_⟩ hw hp
 refine ⟨rfl,fun H hH=>?_⟩
 dsimp only [go_sem] at hw hp ⊢
 and_intros<;>first|exact id|exact fun h h'=>⟨h,h'⟩|rfl|trivial
@[go_sem] def digS:Spec:=⟨[.int .u8],fun d=>(.dat .bool (digr d.1),[])⟩
theorem dig_ok:SpecOk Tryz.prog 59 digS:=by
 refine fn_ok EH15_ok digS Tryz.func59 rfl (by decide) (N:=9) rfl (res:=[.tmp 2]) rfl (by decide) [] [] [] 100 (by kernel_rfl) ?_
 rintro ⟨(c:Int),_⟩ hw hp
 refine ⟨rfl,fun H hH=>?_⟩
 dsimp only [go_sem] at hw hp ⊢
 and_intros<;>first|exact id|exact fun h h'=>⟨h,h'⟩|rfl|trivial
@[go_sem] noncomputable def EI1:Env:=((EH15).add 58 letS).add 59 digS
theorem EI1_ok:EI1.Ok:=((EH15_ok).add let_ok).add dig_ok
def chr (s:Str) (k:Nat):Int:=((s.getD k 0).toNat:Int)
theorem chr_at (s:Str) (k:Nat):strAt s (k:Int)=chr s k:=by unfold strAt chr; rw [Int.toNat_natCast]
def skip (p:Int->Bool) (s:Str):Nat->Nat->Nat
 | 0,k=>k
 | n+1,k=>if decide (k<s.length)&&p (chr s k) then skip p s n (k+1) else k
theorem skip_le (p:Int->Bool) (s:Str):∀ n k,k<=s.length->k<=skip p s n k/\skip p s n k<=s.length
 | 0,k,h=>⟨Nat.le_refl _,h⟩
 | n+1,k,h=>by
  unfold skip
  split
  ·rename_i e
   simp only [Bool.and_eq_true,decide_eq_true_eq] at e
   obtain ⟨a,b⟩:=skip_le p s n (k+1) e.1
   exact ⟨by omega,b⟩
  ·exact ⟨Nat.le_refl _,h⟩
def runP (s:Str) (k:Nat):Nat:=skip digr s (s.length-k) k
@[go_sem] def rnnS:Spec:=⟨[.str,.int .i64],fun d=>(.dat (.int .i64) (runP d.1 (Int.toNat d.2.1):Int),[0<=d.2.1/\d.2.1<=(List.length d.1:Int)])⟩
theorem rnn_ok:SpecOk Tryz.prog 73 rnnS:=by
 refine fn_ok EI1_ok rnnS Tryz.func73 rfl (by decide) (N:=18) rfl (res:=[.tmp 4]) rfl (by decide) [] [] [] 100 (by kernel_rfl) ?_
 rintro ⟨s,(k0:Int),_⟩ hw hp
 refine ⟨rfl,fun H hH=>?_⟩
 dsimp only [go_sem] at hw hp ⊢
 obtain ⟨⟨hp1,hp2⟩,-⟩:=hp
 obtain ⟨hw1,-⟩:=hw
 change Str at s
 have hw1:s.length<=9223372036854775807:=hw1
 obtain ⟨a,rfl⟩:=Int.eq_ofNat_of_zero_le hp1
 have hp2:(a:Int)<=(s.length:Int):=hp2
 refine hH.loop (fun k:Nat=>⟨[(0,.dat .str s),(1,.dat (.int .i64) (k:Int))],[],0⟩) (fun k=>k<=s.length/\skip digr s (s.length-k) k=runP s a) (fun k=>s.length-k) a 0 ⟨by omega,rfl⟩ ?_ ?_
 ·dsimp only [go_sem]
  and_intros<;>first|trivial|rfl|omega
 ·rintro k ⟨hk,hr⟩ R hm
  refine hH.run 100 _ _ ?_
  dsimp only [go_sem]
  simp only [chr_at]
  have e:decide ((k:Int)<(s.length:Int))=decide (k<s.length):=by simp
  rw [e]
  simp only [imp_self,imp2,true_and]
  refine ⟨fun h=>?_,fun h=>?_,fun h=>?_⟩
  ·have h:=of_decide_eq_true h
   have:(0:Int)<=(k:Int)/\(k:Int)<(s.length:Int):=by omega
   exact this
  ·have h':=h
   simp only [Bool.and_eq_true,decide_eq_true_eq] at h'
   obtain ⟨q,hq⟩:∃ q,s.length-k=q+1:=⟨s.length-k-1,by omega⟩
   rw [hq,skip,if_pos h] at hr
   refine ⟨by rw [inR_i64]; omega,hm _ (k+1) 0 ⟨h'.1,by rw [show s.length-(k+1)=q by omega]; exact hr⟩ (by omega) ?_⟩
   dsimp only [go_sem]
   and_intros<;>first|trivial|rfl|omega
  ·have hr2:k=runP s a:=by
     rw [<-hr]
     cases hq:s.length-k with
     | zero=>rfl
     | succ q=>rw [skip,if_neg (by rw [h]; decide)]
   simp only [Int.toNat_natCast]
   rw [<-hr2]
   and_intros<;>first|trivial|rfl
@[go_sem] noncomputable def EI2:Env:=(EI1).add 73 rnnS
theorem EI2_ok:EI2.Ok:=(EI1_ok).add rnn_ok
def nmT (s:Str) (k b:Nat):Nat :=
 if runP s b=b then k
 else if (decide (runP s b<s.length)&&(decide (chr s (runP s b)=47)||decide (chr s (runP s b)=46)))=true then
  if runP s b+1<runP s (runP s b+1) then runP s (runP s b+1) else runP s b
 else runP s b
def nmE (s:Str) (k:Nat):Nat:=nmT s k (if chr s k=45 then k+1 else k)
theorem runP_le (s:Str) (k:Nat) (h:k<=s.length):k<=runP s k/\runP s k<=s.length:=skip_le _ _ _ _ h
theorem nmE_le (s:Str) (k:Nat) (h:k<s.length):k<=nmE s k/\nmE s k<=s.length:=by
 unfold nmE nmT
 have ha:k<=(if chr s k=45 then k+1 else k)/\(if chr s k=45 then k+1 else k)<=s.length:=by split<;>omega
 generalize (if chr s k=45 then k+1 else k)=a at ha ⊢
 obtain ⟨r1,r2⟩:=runP_le s a ha.2
 have q:=fun h=>runP_le s (runP s a+1) h
 generalize runP s a=e at r1 r2 q ⊢
 split
 ·omega
 ·split
  ·rename_i h2
   simp only [Bool.and_eq_true,decide_eq_true_eq] at h2
   have q:=q (by omega)
   split<;>omega
  ·omega
theorem nm_key {s:Str} (hw1:s.length<=9223372036854775807) (k b:Nat) (hb2:b<=s.length) :
    (decide ((runP s b:Int)=(b:Int))=true->(k:Int)=(nmT s k b:Int)) /\
    (decide ((runP s b:Int)=(b:Int))=false ->
     (decide ((runP s b:Int)<(s.length:Int))=true->(0:Int)<=(runP s b:Int)/\(runP s b:Int)<(s.length:Int)) /\
     (decide ((runP s b:Int)<(s.length:Int))=true/\decide (chr s (runP s b)=47)=false->(0:Int)<=(runP s b:Int)/\(runP s b:Int)<(s.length:Int)) /\
     ((decide ((runP s b:Int)<(s.length:Int))&&(decide (chr s (runP s b)=47)||decide (chr s (runP s b)=46)))=true ->
      inR .i64 ((runP s b:Int)+1)/\((0:Int)<=(runP s b:Int)+1/\(runP s b:Int)+1<=(s.length:Int))/\inR .i64 ((runP s b:Int)+1) /\
      (decide ((runP s b:Int)+1<(runP s ((runP s b:Int)+1).toNat:Int))=true->(runP s ((runP s b:Int)+1).toNat:Int)=(nmT s k b:Int)) /\
      (decide ((runP s b:Int)+1<(runP s ((runP s b:Int)+1).toNat:Int))=false->(runP s b:Int)=(nmT s k b:Int))) /\
     ((decide ((runP s b:Int)<(s.length:Int))&&(decide (chr s (runP s b)=47)||decide (chr s (runP s b)=46)))=false->(runP s b:Int)=(nmT s k b:Int))):=by
 have r:=runP_le s b hb2
 obtain ⟨r1,r2⟩:=r
 have q:=fun h=>runP_le s (runP s b+1) h
 unfold nmT
 have hx:∀ x:Int,x=x+0:=fun x=>(Int.add_zero x).symm
 generalize runP s b=e at r1 r2 q ⊢
 have hce:((e:Int)+1)=((e+1:Nat):Int):=rfl
 simp only [hce,Int.toNat_natCast]
 have d1:decide ((e:Int)=(b:Int))=decide (e=b):=decide_eq_decide.2 (by omega)
 have d2:decide ((e:Int)<(s.length:Int))=decide (e<s.length):=decide_eq_decide.2 (by omega)
 have d3:decide (((e+1:Nat):Int)<((runP s (e+1):Nat):Int))=decide (e+1<runP s (e+1)):=decide_eq_decide.2 (by omega)
 simp only [d1,d2,d3,decide_eq_true_eq,decide_eq_false_iff_not]
 have hbe:e<s.length->(0:Int)<=(e:Int)/\(e:Int)<(s.length:Int):=fun h=>by omega
 refine ⟨fun h=>by rw [if_pos h],fun h=>⟨fun h=>hbe h,fun h=>hbe h.1,fun h2=>?_,fun h2=>?_⟩⟩
 ·have h3:e<s.length:=by simp only [Bool.and_eq_true,decide_eq_true_eq] at h2; exact h2.1
  rw [if_neg h,if_pos h2]
  have b1:inR .i64 ((e+1:Nat):Int):=by rw [inR_i64]; omega
  have b2:(0:Int)<=((e+1:Nat):Int)/\((e+1:Nat):Int)<=(s.length:Int):=by omega
  exact ⟨b1,b2,b1,fun m=>by rw [if_pos m],fun m=>by rw [if_neg m]⟩
 ·rw [if_neg h,if_neg (by rw [h2]; decide)]
@[go_sem] def nmES:Spec:=⟨[.str,.int .i64],fun d=>(.dat (.int .i64) (nmE d.1 (Int.toNat d.2.1):Int),[0<=d.2.1/\d.2.1<(List.length d.1:Int)])⟩
theorem nmE_ok:SpecOk Tryz.prog 60 nmES:=by
 refine fn_ok EI2_ok nmES Tryz.func60 rfl (by decide) (N:=48) rfl (res:=[.tmp 4]) rfl (by decide) [] [] [] 100 (by kernel_rfl) ?_
 rintro ⟨s,(k0:Int),_⟩ hw hp
 refine ⟨rfl,fun H hH=>?_⟩
 dsimp only [go_sem] at hw hp ⊢
 obtain ⟨⟨hp1,hp2⟩,-⟩:=hp
 obtain ⟨hw1,-⟩:=hw
 change Str at s
 have hw1:s.length<=9223372036854775807:=hw1
 obtain ⟨a,rfl⟩:=Int.eq_ofNat_of_zero_le hp1
 have hp2:(a:Int)<(s.length:Int):=hp2
 have hca:((a:Int)+1)=((a+1:Nat):Int):=rfl
 simp only [imp_self,imp2,true_and,and_true,chr_at,hca,Int.toNat_natCast]
 unfold nmE
 have hb0:(0:Int)<=(a:Int)/\(a:Int)<(s.length:Int):=by omega
 refine ⟨hb0,fun h=>?_,fun h=>?_⟩
 ·rw [if_pos (of_decide_eq_true h)]
  have hb1:inR .i64 ((a+1:Nat):Int):=by rw [inR_i64]; omega
  have hb3:(0:Int)<=((a+1:Nat):Int)/\((a+1:Nat):Int)<=(s.length:Int):=by omega
  refine ⟨hb1,hb3,?_⟩
  exact nm_key hw1 a (a+1) (by omega)
 ·rw [if_neg (of_decide_eq_false h)]
  exact ⟨⟨hb0.1,Int.le_of_lt hb0.2⟩,nm_key hw1 a a (by omega)⟩
theorem both1 {α:Type} {G:Prop} {H:List It->St->Prop} {k:List It} {inv:α->St} {Q:α->Prop} (h1:(∀ x,Q x->H k (inv x))->G) (h2:∀ x,Q x->H k (inv x)):G:=h1 h2
def wch (c:Int):Bool:=(letr c||digr c)||decide (c=95)
def symb (c:Int):Bool:=(((decide (c=40)||decide (c=41))||decide (c=44))||decide (c=58))||decide (c=61)
def lexT (s:Str) (k:Nat):Int×Nat :=
 if letr (chr s k)=true then (1,skip wch s (s.length-k) k)
 else if (decide (chr s k=45)||digr (chr s k))=true then (2,nmE s k)
 else if chr s k=39 then (3,k)
 else if symb (chr s k)=true then (4,k+1)
 else if chr s k=60 then (4,if (decide (k+1<s.length)&&decide (chr s (k+1)=61))=true then k+2 else k+1)
 else if ((decide (chr s k=33)&&decide (k+1<s.length))&&decide (chr s (k+1)=61))=true then (4,k+2)
 else (0,k)
def lexF:Nat->Str->Nat->List Tok->List Tok×Bool
 | 0,_,_,acc=>(acc,true)
 | n+1,s,k,acc=>if k<s.length then
     if chr s k=32 then lexF n s (k+1) acc
     else if chr s k=35 then (acc,true)
     else if (lexT s k).2=k then ([],false)
     else lexF n s (lexT s k).2 (acc++[((lexT s k).1,(s.take (lexT s k).2).drop k)])
  else (acc,true)
def lexP (s:Str):List Tok×Bool:=lexF (s.length+1) s 0 []
@[go_sem] def seS:Spec:=⟨[.str,.int .i64],fun d=>(.dat (.int .i64) (0:Int),[False])⟩
theorem se_ok:SpecOk Tryz.prog 61 seS:=fun d hp=>hp.1.elim
@[go_sem] noncomputable def EI3:Env:=((EI2).add 60 nmES).add 61 seS
theorem EI3_ok:EI3.Ok:=((EI2_ok).add nmE_ok).add se_ok
def lexK (s:Str):Prop:=s.length<=20000/\∀ k,k<s.length->chr s k≠39
@[go_sem] def lexS:Spec:=⟨[.str],fun d=>(.tup (.cons (.dat (.slice tokT) (lexP d.1).1) (.cons (.dat .bool (lexP d.1).2) .nil)),[lexK d.1])⟩
theorem lex_ok:SpecOk Tryz.prog 43 lexS:=by
 refine fn_ok EI3_ok lexS Tryz.func43 rfl (by decide) (N:=140) rfl (res:=[.tmp 2,.tmp 3]) rfl (by decide) [(29,[(136,.dt)])] [(10,[0]),(31,[0])] [27] 200 (by kernel_rfl) ?_
 rintro ⟨s,_⟩ hw hp
 refine ⟨rfl,fun H hH=>?_⟩
 dsimp only [go_sem] at hw hp ⊢
 obtain ⟨⟨hp1,hp2⟩,-⟩:=hp
 change Str at s
 change s.length<=20000 at hp1
 change ∀ k,k<s.length->chr s k≠39 at hp2
 clear hw
 refine hH.loop (fun x:Nat×Nat×List Tok=>⟨[(0,.dat .str s),(5,.dat (.int .i64) (x.2.1:Int)),(4,.own 0)],[(0,.row 110 tokT x.2.2)],1⟩) (fun x=>x.2.1<=s.length/\s.length-x.2.1<x.1/\x.2.2.length<=x.2.1/\lexF x.1 s x.2.1 x.2.2=lexP s) (fun x=>s.length-x.2.1) (s.length+1,0,[]) 0 ⟨Nat.zero_le _,Nat.lt_succ_self _,Nat.le_refl _,rfl⟩ ?_ ?_
 ·dsimp only [go_sem]
  and_intros<;>first|trivial|rfl|omega
 ·rintro ⟨n,k,acc⟩ ⟨h1,h2,h3,h4⟩ R hm
  dsimp only at h1 h2 h3 h4
  obtain ⟨n,rfl⟩:∃ m,n=m+1:=⟨n-1,by omega⟩
  have hck:((k:Int)+1)=((k+1:Nat):Int):=rfl
  have e0:∀ a:Nat,decide ((a:Int)<(s.length:Int))=decide (a<s.length):=fun a=>decide_eq_decide.2 (by omega)
  have ek:∀ a:Nat,decide ((a:Int)=(k:Int))=decide (a=k):=fun a=>decide_eq_decide.2 (by omega)
  refine hH.run 200 _ _ ?_
  dsimp only [go_sem]
  simp only [imp_self,imp2,true_and,and_true,chr_at,hck,e0,Int.toNat_natCast]
  apply both1 (H:=H) (inv:=fun x:Int×Nat=>⟨[(0,.dat .str s),(5,.dat (.int .i64) (k:Int)),(7,.dat (.int .i64) (x.2:Int)),(8,.dat (.int .i64) x.1),(4,.own 0)],[(0,.row 110 tokT acc)],1⟩) (Q:=fun x=>k<s.length/\chr s k≠32/\chr s k≠35/\lexT s k=x/\k<=x.2/\x.2<=s.length)
  ·intro key
   refine ⟨fun d=>?_,fun d=>?_⟩<;>simp only [decide_eq_true_eq,decide_eq_false_iff_not] at d
   ·have hb:(0:Int)<=(k:Int)/\(k:Int)<(s.length:Int):=by omega
    have i1:inR .i64 ((k+1:Nat):Int):=by rw [inR_i64]; omega
    have h39:=hp2 k d
    refine ⟨hb,fun c1=>?_,fun c1=>⟨fun c2=>?_,fun c2=>⟨fun c3=>?_,fun c3=>⟨fun c4=>?_,fun c4=>⟨fun c5=>?_,fun c5=>⟨fun c6=>?_,fun c6=>?_⟩⟩⟩⟩⟩⟩<;>simp only [decide_eq_true_eq,decide_eq_false_iff_not] at c1
    ·refine ⟨i1,hm _ (n,k+1,acc) 1 ⟨d,by dsimp only; omega,by dsimp only; omega,?_⟩ (by dsimp only; omega) ?_⟩
     ·rw [<-h4,lexF,if_pos d,if_pos c1]
     ·dsimp only [go_sem]
      and_intros<;>first|trivial|rfl|omega
    ·have c2:=of_decide_eq_true c2
     rw [<-h4,lexF,if_pos d,if_neg c1,if_pos c2]
     exact ⟨rfl,rfl⟩
    ·have c2:=of_decide_eq_false c2
     refine HOk.loop (by assumption) (fun e:Nat=>⟨[(0,.dat .str s),(5,.dat (.int .i64) (k:Int)),(7,.dat (.int .i64) (e:Int)),(8,.dat (.int .i64) (1:Int)),(4,.own 0)],[(0,.row 110 tokT acc)],1⟩) (fun e=>k<=e/\e<=s.length/\skip wch s (s.length-e) e=skip wch s (s.length-k) k) (fun e=>s.length-e) k 1 ⟨Nat.le_refl _,h1,rfl⟩ ?_ ?_
     ·dsimp only [go_sem]
      and_intros<;>first|trivial|rfl|omega
     ·rintro e ⟨g1,g2,g3⟩ R2 hm2
      refine hH.run 200 _ _ ?_
      dsimp only [go_sem]
      simp only [imp_self,imp2,true_and,and_true,chr_at,e0]
      have hbe:e<s.length->(0:Int)<=(e:Int)/\(e:Int)<(s.length:Int):=fun h=>by omega
      refine ⟨fun h=>hbe (of_decide_eq_true h),fun h=>hbe (of_decide_eq_true h.1),fun h=>hbe (of_decide_eq_true h.1),fun h=>?_,fun h=>?_⟩
      ·have h':=h
       simp only [Bool.and_eq_true,decide_eq_true_eq] at h'
       obtain ⟨q,hq⟩:∃ q,s.length-e=q+1:=⟨s.length-e-1,by omega⟩
       rw [hq,skip,if_pos (show (decide (e<s.length)&&wch (chr s e))=true from h)] at g3
       refine ⟨by rw [inR_i64]; omega,hm2 _ (e+1) 1 ⟨by omega,h'.1,by rw [show s.length-(e+1)=q by omega]; exact g3⟩ (by omega) ?_⟩
       dsimp only [go_sem]
       and_intros<;>first|trivial|rfl|omega
      ·have hr2:skip wch s (s.length-k) k=e:=by
         rw [<-g3]
         cases hq:s.length-e with
         | zero=>rfl
         | succ q=>rw [skip,if_neg (show ¬(decide (e<s.length)&&wch (chr s e))=true by rw [show (decide (e<s.length)&&wch (chr s e))=false from h]; decide)]
       refine hH.weak ⟨[(0,.dat .str s),(5,.dat (.int .i64) (k:Int)),(7,.dat (.int .i64) (e:Int)),(8,.dat (.int .i64) (1:Int)),(4,.own 0)],[(0,.row 110 tokT acc)],1⟩ 1 ?_ (key (1,e) ⟨d,c1,c2,by unfold lexT; rw [if_pos c3,hr2],g1,g2⟩)
       dsimp only [go_sem]
       and_intros<;>first|trivial|rfl|omega
    ·have c2:=of_decide_eq_false c2
     have hl:=nmE_le s k d
     have c3':¬letr (chr s k)=true:=by rw [c3]; decide
     refine ⟨hb,hH.weak ⟨[(0,.dat .str s),(5,.dat (.int .i64) (k:Int)),(7,.dat (.int .i64) (nmE s k:Int)),(8,.dat (.int .i64) (2:Int)),(4,.own 0)],[(0,.row 110 tokT acc)],1⟩ 1 ?_ (key (2,nmE s k) ⟨d,c1,c2,by unfold lexT; rw [if_neg c3',if_pos c4],hl.1,hl.2⟩)⟩
     dsimp only [go_sem]
     and_intros<;>first|trivial|rfl|omega
    ·exact absurd (of_decide_eq_true c5) h39
    ·have c2:=of_decide_eq_false c2
     have c3':¬letr (chr s k)=true:=by rw [c3]; decide
     have c4':¬(decide (chr s k=45)||digr (chr s k))=true:=by rw [c4]; decide
     have c6:symb (chr s k)=true:=c6
     refine ⟨i1,hH.weak ⟨[(0,.dat .str s),(5,.dat (.int .i64) (k:Int)),(7,.dat (.int .i64) ((k+1:Nat):Int)),(8,.dat (.int .i64) (4:Int)),(4,.own 0)],[(0,.row 110 tokT acc)],1⟩ 1 ?_ (key (4,(k+1)) ⟨d,c1,c2,by unfold lexT; rw [if_neg c3',if_neg c4',if_neg h39,if_pos c6],by dsimp only; omega,d⟩)⟩
     dsimp only [go_sem]
     and_intros<;>first|trivial|rfl|omega
    ·have c2:=of_decide_eq_false c2
     have c3':¬letr (chr s k)=true:=by rw [c3]; decide
     have c4':¬(decide (chr s k=45)||digr (chr s k))=true:=by rw [c4]; decide
     have c6':¬symb (chr s k)=true:=by rw [show symb (chr s k)=false from c6]; decide
     have hk1:k+1<s.length->(0:Int)<=((k+1:Nat):Int)/\((k+1:Nat):Int)<(s.length:Int):=fun h=>by omega
     have hk2:(((k+1:Nat):Int)+1)=((k+2:Nat):Int):=rfl
     have hk3:((k:Int)+2)=((k+2:Nat):Int):=rfl
     simp only [hk2,hk3]
     refine ⟨fun c7=>⟨i1,fun h=>hk1 (of_decide_eq_true h),fun h=>?_,fun h=>?_⟩,fun c7=>⟨fun _=>i1,fun _=>i1,fun h=>?_,fun h=>?_,fun h=>?_⟩⟩
     ·have c7:=of_decide_eq_true c7
      have h':=h
      simp only [Bool.and_eq_true,decide_eq_true_eq] at h'
      refine ⟨by rw [inR_i64]; omega,hH.weak ⟨[(0,.dat .str s),(5,.dat (.int .i64) (k:Int)),(7,.dat (.int .i64) ((k+2:Nat):Int)),(8,.dat (.int .i64) (4:Int)),(4,.own 0)],[(0,.row 110 tokT acc)],1⟩ 1 ?_ (key (4,(k+2)) ⟨d,c1,c2,by unfold lexT; rw [if_neg c3',if_neg c4',if_neg h39,if_neg c6',if_pos c7,if_pos h],by dsimp only; omega,by dsimp only; omega⟩)⟩
      dsimp only [go_sem]
      and_intros<;>first|trivial|rfl|omega
     ·have c7:=of_decide_eq_true c7
      have h':¬(decide (k+1<s.length)&&decide (chr s (k+1)=61))=true:=by rw [h]; decide
      refine hH.weak ⟨[(0,.dat .str s),(5,.dat (.int .i64) (k:Int)),(7,.dat (.int .i64) ((k+1:Nat):Int)),(8,.dat (.int .i64) (4:Int)),(4,.own 0)],[(0,.row 110 tokT acc)],1⟩ 1 ?_ (key (4,(k+1)) ⟨d,c1,c2,by unfold lexT; rw [if_neg c3',if_neg c4',if_neg h39,if_neg c6',if_pos c7,if_neg h'],by dsimp only; omega,by dsimp only; omega⟩)
      dsimp only [go_sem]
      and_intros<;>first|trivial|rfl|omega
     ·simp only [Bool.and_eq_true,decide_eq_true_eq] at h
      exact hk1 h.2
     ·have c7:=of_decide_eq_false c7
      have h':=h
      simp only [Bool.and_eq_true,decide_eq_true_eq] at h'
      refine ⟨by rw [inR_i64]; omega,hH.weak ⟨[(0,.dat .str s),(5,.dat (.int .i64) (k:Int)),(7,.dat (.int .i64) ((k+2:Nat):Int)),(8,.dat (.int .i64) (4:Int)),(4,.own 0)],[(0,.row 110 tokT acc)],1⟩ 1 ?_ (key (4,(k+2)) ⟨d,c1,c2,by unfold lexT; rw [if_neg c3',if_neg c4',if_neg h39,if_neg c6',if_neg c7,if_pos h],by dsimp only; omega,by dsimp only; omega⟩)⟩
      dsimp only [go_sem]
      and_intros<;>first|trivial|rfl|omega
     ·have c7:=of_decide_eq_false c7
      have h':¬((decide (chr s k=33)&&decide (k+1<s.length))&&decide (chr s (k+1)=61))=true:=by rw [h]; decide
      refine hH.weak ⟨[(0,.dat .str s),(5,.dat (.int .i64) (k:Int)),(7,.dat (.int .i64) (k:Int)),(8,.dat (.int .i64) (0:Int)),(4,.own 0)],[(0,.row 110 tokT acc)],1⟩ 1 ?_ (key (0,k) ⟨d,c1,c2,by unfold lexT; rw [if_neg c3',if_neg c4',if_neg h39,if_neg c6',if_neg c7,if_neg h'],Nat.le_refl _,h1⟩)
      dsimp only [go_sem]
      and_intros<;>first|trivial|rfl|omega
   ·rw [<-h4,lexF,if_neg d]
    exact ⟨rfl,rfl⟩
  ·rintro ⟨kd,e⟩ ⟨q1,q2,q3,q4,q5,q6⟩
   dsimp only at q4 q5 q6 ⊢
   refine hH.go [] 100 _ _ ?_
   dsimp only [go_sem]
   simp only [ek,Int.toNat_natCast]
   have hlx:lexP s=if e=k then ([],false) else lexF n s e (acc++[(kd,(s.take e).drop k)]):=by rw [<-h4,lexF,if_pos q1,if_neg q2,if_neg q3,q4]
   refine ⟨fun h=>?_,fun h=>?_⟩<;>simp only [decide_eq_true_eq,decide_eq_false_iff_not] at h
   ·rw [hlx,if_pos h]
    and_intros<;>first|trivial|rfl
   ·rw [if_neg h] at hlx
    have hb:(0:Int)<=(k:Int)/\(k:Int)<=(e:Int)/\(e:Int)<=(s.length:Int):=by omega
    have hz:∀ t:Tok,(acc.length+([t]:List Tok).length)*24<=140737488355328:=fun t=>by rw [List.length_singleton]; omega
    have hz2:∀ t:Tok,(acc++([t]:List Tok)).length<=e:=fun t=>by rw [List.length_append,List.length_singleton]; omega
    refine ⟨hb,hz _,trivial,hm _ (n,e,acc++[(kd,(s.take e).drop k)]) 1 ⟨q6,by dsimp only; omega,hz2 _,hlx.symm⟩ (by dsimp only; omega) ?_⟩
    dsimp only [go_sem]
    and_intros<;>first|trivial|rfl|omega
end Go.Proofs.YtdobkkhncfifeabGreat.Gx
namespace Go.Proofs.YtdobkkhncfifeabGreat.Gx
open Go Go.RowKit Tw B Nt
set_option linter.unusedVariables false
set_option linter.unusedSimpArgs false
set_option maxHeartbeats 4000000
set_option maxRecDepth 20000
@[reducible,go_sem] def psT:Ty:=.pair (.slice tokT) (.pair (.int .i64) .bool)
abbrev PS:=List Tok×Int×Bool
def numOk (t:Str):Prop:=t=[49]∨t=[50]∨t=[51]
def psP (s:PS):Prop:=(0<=s.2.1/\s.2.1<=(s.1.length:Int))/\s.1.length<=20000/\∀ t∈s.1,t.1≠3/\(t.1=2->numOk t.2)
def tk (s:PS):Tok:=s.1.getD s.2.1.toNat (0,[])
def peekP (s:PS) (t:Str):Bool:=(((!s.2.2&&decide (s.2.1<(s.1.length:Int)))&&decide ((tk s).1≠3))&&decide ((tk s).1≠2))&&decide ((tk s).2=t)
@[go_sem] def pkM:MSpec:=⟨[.b 95 psT,.d .str],fun d=>⟨[(0,.box 95 (dA psT d.1 .nil))],1,.dat .bool (peekP d.1 d.2.1),[psP d.1]⟩⟩
@[go_sem] noncomputable def EJ0:Env:=(EI3).add 43 lexS
theorem EJ0_ok:EJ0.Ok:=(EI3_ok).add lex_ok
theorem pkM_ok:MSpecOk Tryz.prog 44 pkM:=by
 refine fnM_ok EJ0_ok pkM Tryz.func44 rfl (by decide) (N:=65) rfl (res:=[.tmp 4]) rfl (by decide) [] [] [] 100 (by kernel_rfl) ?_
 rintro ⟨s,t,_⟩ hw hp H hH
 dsimp only [go_sem] at hw hp ⊢
 obtain ⟨hp,-⟩:=hp
 obtain ⟨l,a,b⟩:=s
 change List Tok at l
 change Int at a
 obtain ⟨⟨h0,h1⟩,h2,h3⟩:=hp
 change (0:Int)<=a at h0
 clear hw
 simp only [imp_self,true_and,imp2,and_true]
 have hb:∀ x:Bool,((x&&decide (a<(l.length:Int)))=true)->(0:Int)<=a/\a<(l.length:Int):=fun x h=>by
  simp only [Bool.and_eq_true,decide_eq_true_eq] at h
  exact ⟨h0,h.2⟩
 refine ⟨fun h=>hb _ h,fun h=>hb (!b) (Bool.and_eq_true_iff.1 h).1,fun h=>hb (!b) (Bool.and_eq_true_iff.1 (Bool.and_eq_true_iff.1 h).1).1,?_⟩
 and_intros<;>first|trivial|rfl
def adv (s:PS):PS:=(s.1,s.2.1+1,s.2.2)
def bad (s:PS):PS:=(s.1,s.2.1,true)
def takP (s:PS) (t:Str):PS×Bool:=if peekP s t=true then (adv s,true) else (s,false)
def wanP (s:PS) (t:Str):PS:=if peekP s t=true then adv s else bad s
def Ad (s s':PS):Prop:=psP s'/\s'.1=s.1/\s.2.1<=s'.2.1
theorem Ad.refl {s:PS} (h:psP s):Ad s s:=⟨h,rfl,Int.le_refl _⟩
theorem Ad.trans {a b c:PS} (h:Ad a b) (h':Ad b c):Ad a c:=⟨h'.1,h'.2.1.trans h.2.1,Int.le_trans h.2.2 h'.2.2⟩
theorem Ad.adv {s:PS} (h:psP s) (hl:s.2.1<(s.1.length:Int)):Ad s (adv s):=by
 obtain ⟨⟨h0,h1⟩,h2,h3⟩:=h
 exact ⟨⟨⟨by show 0<=s.2.1+1; omega,by show s.2.1+1<=_; exact hl⟩,h2,h3⟩,rfl,by show s.2.1<=s.2.1+1; omega⟩
theorem Ad.bad {s:PS} (h:psP s):Ad s (bad s):=⟨h,rfl,Int.le_refl _⟩
theorem peek_lt {s:PS} {t:Str} (h:peekP s t=true):s.2.1<(s.1.length:Int):=by
 unfold peekP at h
 simp only [Bool.and_eq_true,decide_eq_true_eq] at h
 exact h.1.1.1.2
theorem takP_ad {s:PS} (h:psP s) (t:Str):Ad s (takP s t).1/\((takP s t).2=true->s.2.1+1<=(takP s t).1.2.1):=by
 unfold takP
 split
 ·rename_i e; exact ⟨Ad.adv h (peek_lt e),fun _=>Int.le_refl _⟩
 ·exact ⟨Ad.refl h,fun h=>by cases h⟩
theorem wanP_ad {s:PS} (h:psP s) (t:Str):Ad s (wanP s t):=by
 unfold wanP
 split
 ·rename_i e; exact Ad.adv h (peek_lt e)
 ·exact Ad.bad h
@[go_sem] def tkM:MSpec:=⟨[.b 95 psT,.d .str],fun d=>⟨[(0,.box 95 (dA psT (takP d.1 d.2.1).1 .nil))],1,.dat .bool (takP d.1 d.2.1).2,[psP d.1]⟩⟩
@[go_sem] noncomputable def EJ1:Env:=(EJ0).addM 44 pkM
theorem EJ1_ok:EJ1.Ok:=(EJ0_ok).addM pkM_ok
theorem tkM_ok:MSpecOk Tryz.prog 62 tkM:=by
 refine fnM_ok EJ1_ok tkM Tryz.func62 rfl (by decide) (N:=16) rfl (res:=[.tmp 4]) rfl (by decide) [(1,[(7,.ow)])] [] [] 100 (by kernel_rfl) ?_
 rintro ⟨s,t,_⟩ hw hp H hH
 dsimp only [go_sem] at hw hp ⊢
 obtain ⟨hp,-⟩:=hp
 refine ⟨hp,?_⟩
 obtain ⟨⟨h0,h1⟩,h2,h3⟩:=hp
 unfold takP
 refine ⟨fun h=>?_,fun h=>?_⟩
 ·have h:peekP s t=false:=by simpa using h
  rw [h,if_neg (by decide)]
  and_intros<;>first|trivial|rfl
 ·have h:peekP s t=true:=by simpa using h
  have h0:(0:Int)<=s.2.1:=h0
  have h1:(s.2.1:Int)<=(s.1.length:Int):=h1
  have h2:s.1.length<=20000:=h2
  have hi:inR .i64 (s.2.1+1):=by rw [inR_i64]; omega
  rw [h,if_pos rfl]
  refine ⟨hi,?_⟩
  and_intros<;>first|trivial|rfl
@[go_sem] def wnM:MSpec:=⟨[.b 95 psT,.d .str],fun d=>⟨[(0,.box 95 (dA psT (wanP d.1 d.2.1) .nil))],1,.tup .nil,[psP d.1]⟩⟩
@[go_sem] noncomputable def EJ2:Env:=(EJ1).addM 62 tkM
theorem EJ2_ok:EJ2.Ok:=(EJ1_ok).addM tkM_ok
theorem wnM_ok:MSpecOk Tryz.prog 46 wnM:=by
 refine fnM_ok EJ2_ok wnM Tryz.func46 rfl (by decide) (N:=11) rfl (res:=[]) rfl (by decide) [(0,[(6,.ow)])] [] [] 100 (by kernel_rfl) ?_
 rintro ⟨s,t,_⟩ hw hp H hH
 dsimp only [go_sem] at hw hp ⊢
 obtain ⟨hp,-⟩:=hp
 refine ⟨hp,?_⟩
 unfold wanP takP
 cases h:peekP s t with
 | true =>
  simp only [if_true]
  refine ⟨fun h=>?_,fun _=>?_⟩
  ·cases h
  ·and_intros<;>first|trivial|rfl
 | false =>
  simp only [Bool.false_eq_true,if_false]
  refine ⟨fun _=>?_,fun h=>?_⟩
  ·and_intros<;>first|trivial|rfl
  ·cases h
end Go.Proofs.YtdobkkhncfifeabGreat.Gx
