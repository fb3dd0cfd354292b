/-
  Tw, Tw3, in one text: see the remarks at the head of each part.
-/
import Derived.Below
import Derived.Orders
import Derived.Tactics
import Derived.StillTail
namespace Go.Proofs.Ytbokoblnehgkaaa.Tw
open Go Go.RowKit
set_option linter.unusedVariables false
def gt (a:Act) (t:Nat):Value:=a.tmps.getD t undef
theorem gt_put_self {a:Act} {t:Nat} (h:t<a.tmps.size) (v:Value):gt (a.put (some t) v) t=v:=by
 simp [gt,Act.put,h]
theorem gt_put_ne {a:Act} {t:Nat} {d:Option Nat} (h:d≠some t) (v:Value):gt (a.put d v) t=gt a t:=by
 cases d with
 | none=>rfl
 | some d =>
  have:d≠t:=fun e=>h (by rw [e])
  simp [gt,Act.put,Array.getElem?_setIfInBounds_ne this]
theorem size_put (a:Act) (d:Option Nat) (v:Value):(a.put d v).tmps.size=a.tmps.size:=by
 cases d<;>simp [Act.put]
theorem defers_put (a:Act) (d:Option Nat) (v:Value):(a.put d v).defers=a.defers:=by
 cases d<;>simp [Act.put]
theorem act_ext {a b:Act} (hd:a.defers=b.defers) (hs:a.tmps.size=b.tmps.size) (hg:∀ t,t<a.tmps.size->gt a t=gt b t):a=b:=by
 obtain ⟨at',ad⟩:=a
 obtain ⟨bt,bd⟩:=b
 simp only at hd hs
 subst hd
 congr 1
 apply Array.ext hs
 intro i h1 h2
 have:=hg i h1
 simp only [gt] at this
 simpa [h1,h2] using this
def Does (P:Program) (ρ:Operand->Value) (o:Oper) (w:World) (R:Value->World->Prop):Prop :=
 match (execOp ρ o).run P w with
 | .ok (.value v) w'=>R v w'
 | .ok .skip w'=>R undef w'
 | .ok (.enter f args) w'=>Calls P f args w' (fun e w''=>∃ v,e=.returned v/\R v w'')
 | _=>False
theorem Does.wp {P:Program} {o:Oper} {a:Act} {w:World} {R:Value->World->Prop} {K:Act->World->Prop} {Q:Exit->Act->World->Prop}
    (h:Does P a.eval o w R) (hK:∀ v w',R v w'->K (a.put o.dst v) w'):o.wp P a w K Q:=by
 unfold Does at h
 unfold Oper.wp
 split at h
 ·rename_i v w' e; rw [e]; exact hK _ _ h
 ·rename_i w' e; rw [e]; exact hK _ _ h
 ·rename_i f args w' e; rw [e]
  refine Calls.mono h ?_
  rintro e w'' ⟨v,rfl,hr⟩
  exact hK _ _ hr
 ·exact h.elim
def lw (ds:List (Option Nat)) (p:Nat->Bool) (t:Nat):Nat->Option Nat
 | 0=>none
 | k+1=>if p k&&(ds[k]? == some (some t)) then some k else lw ds p t k
theorem lw_some {ds:List (Option Nat)} {p:Nat->Bool} {t:Nat}:∀ {k i:Nat},lw ds p t k=some i ->
    i<k/\p i=true/\ds[i]?=some (some t)/\∀ m,i<m->m<k->¬(p m=true/\ds[m]?=some (some t))
 | 0,i,h=>by simp [lw] at h
 | k+1,i,h=>by
  unfold lw at h
  split at h
  ·rename_i hc
   simp only [Bool.and_eq_true,beq_iff_eq] at hc
   cases h
   exact ⟨by omega,hc.1,hc.2,fun m h1 h2=>by omega⟩
  ·rename_i hc
   simp only [Bool.and_eq_true,beq_iff_eq] at hc
   obtain ⟨h1,h2,h3,h4⟩:=lw_some h
   refine ⟨by omega,h2,h3,fun m hm1 hm2=>?_⟩
   by_cases hmk:m=k
   ·subst hmk; exact hc
   ·exact h4 m hm1 (by omega)
theorem lw_none {ds:List (Option Nat)} {p:Nat->Bool} {t:Nat}:∀ {k:Nat},lw ds p t k=none->∀ m,m<k->¬(p m=true/\ds[m]?=some (some t))
 | 0,_,m,hm=>by omega
 | k+1,h,m,hm=>by
  unfold lw at h
  split at h
  ·cases h
  ·rename_i hc
   simp only [Bool.and_eq_true,beq_iff_eq] at hc
   by_cases hmk:m=k
   ·subst hmk; exact hc
   ·exact lw_none h m (by omega)
theorem lw_of_some {ds:List (Option Nat)} {p:Nat->Bool} {t:Nat}:∀ {k i:Nat},i<k->p i=true->ds[i]?=some (some t) ->
    (∀ m,i<m->m<k->¬(p m=true/\ds[m]?=some (some t)))->lw ds p t k=some i
 | 0,i,h,_,_,_=>by omega
 | k+1,i,h1,h2,h3,h4=>by
  unfold lw
  split
  ·rename_i hc
   simp only [Bool.and_eq_true,beq_iff_eq] at hc
   by_cases hik:i=k
   ·rw [hik]
   ·exact absurd hc (h4 k (by omega) (by omega))
  ·rename_i hc
   simp only [Bool.and_eq_true,beq_iff_eq] at hc
   have hik:i≠k:=fun e=>hc (by subst e; exact ⟨h2,h3⟩)
   exact lw_of_some (by omega) h2 h3 fun m a b=>h4 m a (by omega)
theorem lw_of_none {ds:List (Option Nat)} {p:Nat->Bool} {t:Nat}:∀ {k:Nat},(∀ m,m<k->¬(p m=true/\ds[m]?=some (some t)))->lw ds p t k=none
 | 0,_=>rfl
 | k+1,h=>by
  unfold lw
  rw [if_neg (by simpa only [Bool.and_eq_true,beq_iff_eq] using h k (by omega))]
  exact lw_of_none fun m hm=>h m (by omega)
def edgeMask (M:List Nat) (o:Oper):Nat:=o.after.toList.foldl (fun s e=>if Region.binds .any e then s ||| (2 ^ e.on ||| M.getD e.on 0) else s) 0
theorem edgeMask_bit {M:List Nat} {o:Oper} {i:Nat} (h:(edgeMask M o).testBit i=true) :
    ∃ e∈o.after,Region.binds .any e=true/\(i=e.on∨(M.getD e.on 0).testBit i=true):=by
 have key:∀ (l:List Edge) (s:Nat),(l.foldl (fun s e=>if Region.binds .any e then s ||| (2 ^ e.on ||| M.getD e.on 0) else s) s).testBit i=true ->
     s.testBit i=true∨∃ e∈l,Region.binds .any e=true/\(i=e.on∨(M.getD e.on 0).testBit i=true):=by
  intro l
  induction l with
  | nil=>intro s h; exact .inl h
  | cons e l ih =>
   intro s h
   rw [List.foldl_cons] at h
   rcases ih _ h with h1|⟨e',he',h2⟩
   ·split at h1
    ·rename_i hb
     rw [Nat.testBit_or,Bool.or_eq_true,Nat.testBit_or,Bool.or_eq_true] at h1
     rcases h1 with h1|h1|h1
     ·exact .inl h1
     ·exact .inr ⟨e,by simp,hb,.inl (by rw [Nat.testBit_two_pow] at h1; exact (of_decide_eq_true h1).symm)⟩
     ·exact .inr ⟨e,by simp,hb,.inr h1⟩
    ·exact .inl h1
   ·exact .inr ⟨e',by simp [he'],h2⟩
 rcases key _ _ h with h|⟨e,he,h⟩
 ·simp at h
 ·exact ⟨e,by simpa using he,h⟩
def chk (l:List Oper) (M:List Nat) (rows:List (List (Nat×Option Nat))) (N:Nat):Bool :=
 let ds:=l.map (·.dst)
 let n:=l.length
 l.zipIdx.all fun (o,j) =>
  ((M.getD j 0 ||| edgeMask M o) == edgeMask M o) &&
  (o.after.all fun e=>!Region.binds .any e||decide (e.on<j)) &&
  (match o.op with|.select ..=>false|_=>true) &&
  (match o.dst with
   | none=>true
   | some d=>decide (d<N)&&(List.range n).all fun k=>!(ds[k]? == some (some d))||!(decide (k<j))||(M.getD j 0).testBit k) &&
  ((rows.getD j []).all fun r=>decide (r.1<N)&&r.2 == lw ds (fun _=>true) r.1 j &&
   (match r.2 with|none=>true|some i=>(M.getD j 0).testBit i) &&
   (List.range n).all fun k=>!(ds[k]? == some (some r.1))||!(decide (j<k))||(M.getD k 0).testBit j)
def gok (ops:Array Oper) (o:Oper) (a:Act):Prop :=
 match o.guard with
 | none=>True
 | some (g,want)=>∃ t,(ops[g]?).bind (·.dst)=some t/\gt a t=.bool want
theorem wanted_iff {ops:Array Oper} {o:Oper} {a:Act}:Region.wanted o (yielded ops a.tmps)=true↔gok ops o a:=by
 unfold Region.wanted gok
 cases o.guard with
 | none=>simp
 | some gw =>
  obtain ⟨g,want⟩:=gw
  simp only [yielded,beq_iff_eq]
  cases hd:(ops[g]?).bind (·.dst) with
  | none=>simp
  | some t =>
   simp only [Option.bind_some,Option.some.injEq,exists_eq_left',gt,Array.getD_eq_getD_getElem?]
   cases ht:a.tmps[t]? with
   | none=>simp [undef]
   | some v=>cases v<;>simp
def puts (a:Act):List Oper->(Nat->Value)->Nat->Act
 | [],_,_=>a
 | o::os,v,k=>puts (a.put o.dst (v k)) os v (k+1)
theorem puts_defers:∀ (l:List Oper) (a:Act) (v:Nat->Value) (k:Nat),(puts a l v k).defers=a.defers
 | [],a,v,k=>rfl
 | o::os,a,v,k=>by rw [puts,puts_defers os,defers_put]
theorem puts_size:∀ (l:List Oper) (a:Act) (v:Nat->Value) (k:Nat),(puts a l v k).tmps.size=a.tmps.size
 | [],a,v,k=>rfl
 | o::os,a,v,k=>by rw [puts,puts_size os,size_put]
theorem puts_snoc:∀ (l:List Oper) (o:Oper) (a:Act) (v:Nat->Value) (k:Nat),puts a (l++[o]) v k=(puts a l v k).put o.dst (v (k+l.length))
 | [],o,a,v,k=>rfl
 | x::os,o,a,v,k=>by rw [List.cons_append,puts,puts_snoc os o,puts,List.length_cons]; congr 2; omega
theorem gt_puts (a:Act) (v:Nat->Value) (l:List Oper) (t:Nat) (ht:t<a.tmps.size):∀ k,k<=l.length ->
    gt (puts a (l.take k) v 0) t=match lw (l.map (·.dst)) (fun _=>true) t k with|some i=>v i|none=>gt a t
 | 0,_=>by simp [puts,lw]
 | k+1,hk=>by
  have hl:k<l.length:=by omega
  rw [List.take_succ_eq_append_getElem hl,puts_snoc]
  have ih:=gt_puts a v l t ht k (by omega)
  unfold lw
  have hds:(l.map (·.dst))[k]?=some (l[k].dst):=by simp [hl]
  rw [hds]
  simp only [Bool.true_and,beq_iff_eq,Option.some.injEq,List.length_take,Nat.min_eq_left (Nat.le_of_lt hl),Nat.zero_add]
  by_cases hd:l[k].dst=some t
  ·rw [if_pos hd,hd,gt_put_self (by rw [puts_size]; exact ht)]
  ·rw [if_neg hd,gt_put_ne hd,ih]
section
variable {P:Program} {l:List Oper} {Q:Exit->Act->World->Prop} {F:Nat->Value->World->Prop} {a0:Act} {w0:World} {M:List Nat} {rows:List (List (Nat×Option Nat))}
structure Chk (l:List Oper) (M:List Nat) (rows:List (List (Nat×Option Nat))) (N:Nat) (j:Nat) (o:Oper):Prop where
 mask:∀ i,(M.getD j 0).testBit i=true->∃ e∈o.after,Region.binds .any e=true/\(i=e.on∨(M.getD e.on 0).testBit i=true)
 lower:∀ e∈o.after,Region.binds .any e=true->e.on<j
 nosel:∀ cs b,o.op≠.select cs b
 dlt:∀ d,o.dst=some d->d<N
 dord:∀ d,o.dst=some d->∀ k,k<j->(l.map (·.dst))[k]?=some (some d)->(M.getD j 0).testBit k=true
 reads:∀ r∈rows.getD j [],r.1<N/\r.2=lw (l.map (·.dst)) (fun _=>true) r.1 j
 rsrc:∀ r∈rows.getD j [],∀ i,r.2=some i->(M.getD j 0).testBit i=true
 rlate:∀ r∈rows.getD j [],∀ k,j<k->k<l.length->(l.map (·.dst))[k]?=some (some r.1)->(M.getD k 0).testBit j=true
theorem chk_spec {N:Nat} (h:chk l M rows N=true) {j:Nat} {o:Oper} (hj:l[j]?=some o):Chk l M rows N j o:=by
 unfold chk at h
 have hmem:(o,j)∈l.zipIdx:=by
  rw [List.mem_zipIdx_iff_getElem?]; simpa using hj
 have hlt:j<l.length:=by
  rcases Nat.lt_or_ge j l.length with h|h
  ·exact h
  ·rw [List.getElem?_eq_none h] at hj; cases hj
 have:=List.all_eq_true.1 h _ hmem
 simp only [Bool.and_eq_true] at this
 obtain ⟨⟨⟨⟨h1,h2⟩,h3⟩,h4⟩,h5⟩:=this
 refine ⟨fun i hi=>?_,fun e he hb=>?_,fun cs b e=>?_,fun d hd=>?_,fun d hd k hk hds=>?_,fun t ht=>?_,fun t ht i hi=>?_,fun t ht k hk hkl hds=>?_⟩
 ·refine edgeMask_bit ?_
  rw [<-beq_iff_eq.1 h1,Nat.testBit_or,hi,Bool.true_or]
 ·have h6:=Array.all_eq_true_iff_forall_mem.1 h2 e he
  rw [hb] at h6
  simpa using h6
 ·rw [e] at h3; cases h3
 ·rw [hd] at h4
  simp only [Bool.and_eq_true,decide_eq_true_eq] at h4
  exact h4.1
 ·rw [hd] at h4
  simp only [Bool.and_eq_true] at h4
  have h6:=List.all_eq_true.1 h4.2 k (List.mem_range.2 (by omega))
  rw [hds] at h6
  simpa [hk] using h6
 ·have h6:=List.all_eq_true.1 h5 t ht
  simp only [Bool.and_eq_true,decide_eq_true_eq,beq_iff_eq] at h6
  exact ⟨h6.1.1.1,h6.1.1.2⟩
 ·have h6:=List.all_eq_true.1 h5 t ht
  simp only [Bool.and_eq_true] at h6
  have h7:=h6.1.2
  rw [hi] at h7
  exact h7
 ·have h6:=List.all_eq_true.1 h5 t ht
  simp only [Bool.and_eq_true] at h6
  have h7:=List.all_eq_true.1 h6.2 k (List.mem_range.2 hkl)
  rw [hds] at h7
  simpa [hk] using h7
theorem all_listed {N:Nat} (hchk:chk l M rows N=true) {listed:Array Bool} (hs:listed.size=l.length) (h:Region.ready .any l.toArray listed=[]) :
    ∀ j,j<l.length->listed.getD j false=true:=by
 intro j
 induction j using Nat.strongRecOn with
 | _ j ih =>
  intro hj
  cases hl:listed.getD j false with
  | true=>rfl
  | false =>
   exfalso
   have hj':j<listed.size:=by omega
   obtain ⟨o,ho⟩:∃ o,l[j]?=some o:=⟨l[j],by simp [hj]⟩
   have hm:j∈Region.ready .any l.toArray listed:=by
    refine mem_ready.2 ⟨?_,o,by simpa using ho,fun e he hb=>?_⟩
    ·simp [hj'] at hl ⊢; exact hl
    ·have:=(chk_spec hchk ho).lower e he hb
     exact ih e.on this (by omega)
   rw [h] at hm; cases hm
theorem count_zero {listed:Array Bool} (h:listed.count false=0):∀ j,j<listed.size->listed.getD j false=true:=by
 intro j hj
 rw [Array.count_eq_zero] at h
 cases hb:listed[j] with
 | true=>simp [hj,hb]
 | false=>exact absurd (hb▸Array.getElem_mem hj) h
theorem count_step {listed:Array Bool} {j k:Nat} (hj:j<listed.size) (hb:listed.getD j true=false) (h:listed.count false=k+1):(listed.setIfInBounds j true).count false=k:=by
 have hb':listed[j]=false:=by simpa [hj] using hb
 rw [Array.setIfInBounds,dif_pos hj,Array.count_set]
 simp [hb',h]
end
end Go.Proofs.Ytbokoblnehgkaaa.Tw
namespace Go.Proofs.Ytbokoblnehgkaaa.Tw
open Go Go.RowKit
set_option linter.unusedVariables false
def up (L:Nat->Bool) (j:Nat):Nat->Bool:=fun i=>if i=j then true else L i
def upv (v:Nat->Value) (j:Nat) (x:Value):Nat->Value:=fun i=>if i=j then x else v i
def ObJ (P:Program) (J:(Nat->Bool)->(Nat->Value)->World->Prop) (a0:Act) (M:List Nat) (ops:Array Oper) (j:Nat) (o:Oper) (rs:List (Nat×Option Nat)):Prop :=
 ∀ (L:Nat->Bool) (val:Nat->Value) (a:Act) (w:World),J L val w->L j=false->(∀ i,(M.getD j 0).testBit i=true->L i=true) ->
  (∀ r∈rs,gt a r.1=match r.2 with|some i=>val i|none=>gt a0 r.1) ->
  (gok ops o a->Does P a.eval o w (fun v w'=>J (up L j) (upv val j v) w'))/\(¬gok ops o a->J (up L j) (upv val j undef) w)
section
variable {P:Program} {l:List Oper} {Q:Exit->Act->World->Prop} {J:(Nat->Bool)->(Nat->Value)->World->Prop} {a0:Act} {w0:World} {M:List Nat} {rows:List (List (Nat×Option Nat))}
structure InvJ (J:(Nat->Bool)->(Nat->Value)->World->Prop) (a0:Act) (l:List Oper) (M:List Nat) (listed:Array Bool) (a:Act) (w:World) (val:Nat->Value):Prop where
 size:listed.size=l.length
 closed:∀ j i,listed.getD j false=true->(M.getD j 0).testBit i=true->listed.getD i false=true
 defers:a.defers=a0.defers
 tsize:a.tmps.size=a0.tmps.size
 slots:∀ t,t<a0.tmps.size->gt a t=match lw (l.map (·.dst)) (fun i=>listed.getD i false) t l.length with|some i=>val i|none=>gt a0 t
 j:J (fun i=>listed.getD i false) val w
theorem inv_stepJ {N:Nat} (hN:a0.tmps.size=N) (hchk:chk l M rows N=true)
    {j:Nat} {o:Oper} (hj:l[j]?=some o) (hob:ObJ P J a0 M l.toArray j o (rows.getD j [])) {listed:Array Bool} {a:Act} {w:World} {val:Nat->Value}
    (hi:InvJ J a0 l M listed a w val) (hr:j∈Region.ready .any l.toArray listed) {K:Act->World->Prop}
    (hK:∀ a' w' val',InvJ J a0 l M (listed.setIfInBounds j true) a' w' val'->K a' w'):wpOp P l.toArray Q j K a w:=by
 have C:=chk_spec hchk hj
 have hlt:j<l.length:=by
  rcases Nat.lt_or_ge j l.length with h|h
  ·exact h
  ·rw [List.getElem?_eq_none h] at hj; cases hj
 obtain ⟨hun,o',ho',hall⟩:=mem_ready.1 hr
 have hoo:o'=o:=by
  have:l.toArray[j]?=some o:=by simpa using hj
  rw [this] at ho'; cases ho'; rfl
 subst hoo
 have hunf:listed.getD j false=false:=by
  have:j<listed.size:=by rw [hi.size]; exact hlt
  simp [this] at hun ⊢; exact hun
 have hmask:∀ i,(M.getD j 0).testBit i=true->listed.getD i false=true:=by
  intro i hb
  obtain ⟨e,he,hbd,h1⟩:=C.mask i hb
  have hl:=hall e he hbd
  rcases h1 with rfl|h1
  ·exact hl
  ·exact hi.closed _ _ hl h1
 have hsrc:∀ r∈rows.getD j [],lw (l.map (·.dst)) (fun i=>listed.getD i false) r.1 l.length=r.2:=by
  intro r hr
  have late:∀ m,j<m->m<l.length->(l.map (·.dst))[m]?=some (some r.1)->listed.getD m false=false:=by
   intro m h1 h2 h3
   have hb:=C.rlate r hr m h1 h2 h3
   cases hm:listed.getD m false with
   | false=>rfl
   | true=>rw [hi.closed m j hm hb] at hunf; cases hunf
  have hs:=(C.reads r hr).2
  cases hr2:r.2 with
  | some i =>
   have hs':=hs
   rw [hr2] at hs'
   obtain ⟨h1,_,h3,h4⟩:=lw_some hs'.symm
   refine lw_of_some (by omega) (hmask i (C.rsrc r hr i hr2)) h3 fun m hm1 hm2 ⟨hm3,hm4⟩=>?_
   rcases Nat.lt_trichotomy m j with h|h|h
   ·exact h4 m hm1 h ⟨rfl,hm4⟩
   ·subst h; rw [hm3] at hunf; cases hunf
   ·rw [late m h hm2 hm4] at hm3; cases hm3
  | none =>
   rw [hr2] at hs
   have h4:=lw_none hs.symm
   refine lw_of_none fun m hm2 ⟨hm3,hm4⟩=>?_
   rcases Nat.lt_trichotomy m j with h|h|h
   ·exact h4 m h ⟨rfl,hm4⟩
   ·subst h; rw [hm3] at hunf; cases hunf
   ·rw [late m h hm2 hm4] at hm3; cases hm3
 have hfacts:∀ r∈rows.getD j [],gt a r.1=match r.2 with|some i=>val i|none=>gt a0 r.1:=by
  intro r hr
  have h3:r.1<a0.tmps.size:=by rw [hN]; exact (C.reads r hr).1
  rw [hi.slots r.1 h3,hsrc r hr]
 obtain ⟨ob1,ob2⟩:=hob _ val a w hi.j hunf hmask hfacts
 have hup:(fun i=>(listed.setIfInBounds j true).getD i false)=up (fun i=>listed.getD i false) j:=by
  funext i
  by_cases hij:i=j
  ·subst hij
   have:i<listed.size:=by rw [hi.size]; exact hlt
   simp [up,this]
  ·rw [getD_set_ne false (Ne.symm hij)]; simp [up,hij]
 have next:∀ v w',J (up (fun i=>listed.getD i false) j) (upv val j v) w'->K (a.put o'.dst v) w':=by
  intro v w' hF
  refine hK _ _ (upv val j v) ⟨by simp [hi.size],?_,by rw [defers_put]; exact hi.defers,by rw [size_put]; exact hi.tsize,?_,by rw [hup]; exact hF⟩
  ·intro j' i h1 h2
   by_cases hjj:j'=j
   ·subst hjj; exact getD_set_true (hmask i h2)
   ·rw [getD_set_ne false (Ne.symm hjj)] at h1
    exact getD_set_true (hi.closed j' i h1 h2)
  ·intro t ht
   have hds:(l.map (·.dst))[j]?=some o'.dst:=by simp [hj]
   by_cases hd:o'.dst=some t
   ·rw [hd,gt_put_self (by rw [hi.tsize]; exact ht)]
    have:lw (l.map (·.dst)) (fun i=>(listed.setIfInBounds j true).getD i false) t l.length=some j:=by
     refine lw_of_some hlt (by have:j<listed.size:=(by rw [hi.size]; exact hlt); simp [this]) (by rw [hds,hd]) fun m hm1 hm2 ⟨hm3,hm4⟩=>?_
     rw [getD_set_ne false (by omega)] at hm3
     obtain ⟨om,hom⟩:∃ om,l[m]?=some om:=⟨l[m],by simp [hm2]⟩
     have hmd:om.dst=some t:=by
      simp [hom] at hm4; exact hm4
     have:=hi.closed m j hm3 ((chk_spec hchk hom).dord t hmd j hm1 (by rw [hds,hd]))
     rw [this] at hunf; cases hunf
    rw [this]; simp [upv]
   ·rw [gt_put_ne hd,hi.slots t ht]
    have:∀ k,k<=l.length->lw (l.map (·.dst)) (fun i=>(listed.setIfInBounds j true).getD i false) t k=lw (l.map (·.dst)) (fun i=>listed.getD i false) t k:=by
     intro k
     induction k with
     | zero=>intro _; rfl
     | succ k ih =>
      intro hk
      unfold lw
      by_cases hkj:k=j
      ·subst hkj
       have hne:((l.map (·.dst))[k]? == some (some t))=false:=by
        rw [hds,beq_eq_false_iff_ne]; intro e; exact hd (Option.some.inj e)
       rw [hne,Bool.and_false,Bool.and_false]
       exact ih (by omega)
      ·rw [getD_set_ne false (Ne.symm hkj),ih (by omega)]
    rw [this _ (Nat.le_refl _)]
    cases hs:lw (l.map (·.dst)) (fun i=>listed.getD i false) t l.length with
    | none=>rfl
    | some i =>
     obtain ⟨_,h5,_⟩:=lw_some hs
     have:i≠j:=fun e=>by subst e; rw [hunf] at h5; cases h5
     simp [upv,this]
 unfold wpOp
 have hoj:l.toArray[j]?=some o':=by simpa using hj
 simp only [hoj]
 by_cases hg:gok l.toArray o' a
 ·rw [if_pos (wanted_iff.2 hg)]
  exact .inl ((ob1 hg).wp fun v w' h=>next v w' h)
 ·rw [if_neg (fun e=>hg (wanted_iff.1 e))]
  exact next undef w (ob2 hg)
def tailB (l:List Oper) (M:List Nat) (n1:Nat):Bool :=
 decide (n1<=l.length)&&((List.range l.length).all fun j=>decide (j<n1)||(List.range n1).all fun i=>(M.getD j 0).testBit i) &&
  Region.seqB .any l.toArray (l.length-n1) n1 ((List.range l.length).map fun i=>decide (i<n1)).toArray
theorem regionJ {N:Nat} {id:Nat} (hm:P.follows .mixedOrders=true) (J:(Nat->Bool)->(Nat->Value)->World->Prop) (M:List Nat) (rows:List (List (Nat×Option Nat))) (n1:Nat)
    (hN:a0.tmps.size=N) (hchk:chk l M rows N=true) (htl:tailB l M n1=true)
    (hj0:J (fun _=>false) (fun _=>undef) { w0 with drawn:=w0.drawn+1 })
    (hob:∀ j o,j<n1->l[j]?=some o->ObJ P J a0 M l.toArray j o (rows.getD j []))
    (hQ:∀ (v:Nat->Value) (w:World),J (fun i=>decide (i<n1)) v w->wpList P l.toArray Q (l.drop n1) (puts a0 (l.take n1) v 0) w) :
    (Code.region id l.toArray true).wp P Q a0 w0:=by
 refine wp_region_any hm ?_
 unfold tailB at htl
 simp only [Bool.and_eq_true,decide_eq_true_eq] at htl
 obtain ⟨⟨hle,hpre⟩,hseq⟩:=htl
 have hpre':∀ j,n1<=j->j<l.length->∀ i,i<n1->(M.getD j 0).testBit i=true:=by
  intro j h1 h2 i hi
  have:=List.all_eq_true.1 hpre j (List.mem_range.2 h2)
  rw [Bool.or_eq_true,decide_eq_true_eq] at this
  rcases this with h|h
  ·omega
  ·exact List.all_eq_true.1 h i (List.mem_range.2 hi)
 have hlw:∀ {listed:Array Bool},(∀ j,j<n1->listed.getD j false=true)->(∀ j,n1<=j->listed.getD j false=false)->∀ (t k:Nat),lw (l.map (·.dst)) (fun i=>listed.getD i false) t k=lw (l.map (·.dst)) (fun _=>true) t (min k n1):=by
  intro listed h1 h2 t k
  induction k with
  | zero=>rw [Nat.zero_min]; rfl
  | succ k ih =>
   rcases Nat.lt_or_ge k n1 with h|h
   ·rw [Nat.min_eq_left (by omega)]
    rw [Nat.min_eq_left (by omega)] at ih
    simp only [lw,h1 k h,ih]
   ·rw [Nat.min_eq_right (by omega)]
    rw [Nat.min_eq_right (by omega)] at ih
    simp only [lw,h2 k h,Bool.false_and,Bool.false_eq_true,if_false,ih]
 have fin:∀ {listed:Array Bool} {a:Act} {w:World} {val:Nat->Value},InvJ J a0 l M listed a w val->(∀ j,j<n1->listed.getD j false=true)->(∀ j,n1<=j->listed.getD j false=false) ->
     wpAny P .any l.toArray Q (listed.count false) listed a w:=by
  intro listed a w val hi h1 h2
  have ha:a=puts a0 (l.take n1) val 0:=by
   refine act_ext (by rw [puts_defers]; exact hi.defers) (by rw [puts_size]; exact hi.tsize) fun t ht=>?_
   have ht0:t<a0.tmps.size:=by rw [<-hi.tsize]; exact ht
   rw [gt_puts a0 val l t ht0 n1 hle,hi.slots t ht0,hlw h1 h2,Nat.min_eq_right hle]
   try (cases lw (l.map (·.dst)) (fun _=>true) t n1<;>rfl)
  have hlist:listed=((List.range l.length).map fun i=>decide (i<n1)).toArray:=by
   refine Array.ext (by simp [hi.size]) fun i q1 q2=>?_
   have hil:i<l.length:=by rw [<-hi.size]; exact q1
   rcases Nat.lt_or_ge i n1 with h|h
   ·have:=h1 i h
    simp [q1] at this
    simp [this,h]
   ·have:=h2 i h
    simp [q1] at this
    simp [this,h]
  have hcount:listed.count false=(l.drop n1).length:=by
   rw [hlist,List.count_toArray,List.length_drop]
   have:∀ n,List.count false ((List.range n).map fun i=>decide (i<n1))=n-n1:=by
    intro n
    induction n with
    | zero=>simp
    | succ n ih =>
     rw [List.range_succ,List.map_append,List.count_append,ih]
     rcases Nat.lt_or_ge n n1 with h|h
     ·simp [h]; omega
     ·simp [Nat.not_lt.2 h]; omega
   exact this _
  have hJ:J (fun i=>decide (i<n1)) val w:=by
   have e:(fun i=>listed.getD i false)=fun i=>decide (i<n1):=by
    funext i
    rcases Nat.lt_or_ge i n1 with h|h
    ·rw [h1 i h,decide_eq_true h]
    ·rw [h2 i h,decide_eq_false (Nat.not_lt.2 h)]
   have:=hi.j
   rwa [e] at this
  rw [hcount]
  refine wpAny_of_seq (l.drop n1) n1 listed a w (fun j=>by simp) ?_ (ha▸hQ val w hJ)
  rw [hlist,List.length_drop]; exact hseq
 have key:∀ (fuel:Nat) (listed:Array Bool) (a:Act) (w:World) (val:Nat->Value),InvJ J a0 l M listed a w val->(∀ j,n1<=j->listed.getD j false=false)->listed.count false=fuel ->
     wpAny P .any l.toArray Q fuel listed a w:=by
  intro fuel
  induction fuel with
  | zero =>
   intro listed a w val hi hno hc
   rw [<-hc]
   exact fin hi (fun j hj=>count_zero hc j (by rw [hi.size]; omega)) hno
  | succ fuel ih =>
   intro listed a w val hi hno hc
   by_cases hall:∀ j,j<n1->listed.getD j false=true
   ·rw [<-hc]; exact fin hi hall hno
   ·refine ⟨fun h=>absurd (fun j hj=>all_listed hchk hi.size h j (by omega)) hall,fun j hj=>?_⟩
    obtain ⟨h1,o,ho,hed⟩:=mem_ready.1 hj
    have hoj:l[j]?=some o:=by simpa using ho
    have hjl:j<l.length:=by
     rcases Nat.lt_or_ge j l.length with h|h
     ·exact h
     ·rw [List.getElem?_eq_none h] at hoj; cases hoj
    have hjn:j<n1:=by
     rcases Nat.lt_or_ge j n1 with h|h
     ·exact h
     ·refine absurd (fun i hi'=>?_) hall
      obtain ⟨e,he,hbd,h3⟩:=(chk_spec hchk hoj).mask i (hpre' j h hjl i hi')
      have hl:=hed e he hbd
      rcases h3 with rfl|h3
      ·exact hl
      ·exact hi.closed _ _ hl h3
    exact inv_stepJ hN hchk hoj (hob j o hjn hoj) hi hj fun a' w' val' hi'=>ih _ a' w' val' hi'
     (fun k hk=>by rw [getD_set_ne false (by omega)]; exact hno k hk) (count_step (by rw [hi.size]; exact hjl) h1 hc)
 have hz:∀ j,(Array.replicate l.toArray.size false).getD j false=false:=by
  intro j
  simp only [List.size_toArray,Array.getD_eq_getD_getElem?,Array.getElem?_replicate]
  split<;>rfl
 refine key l.length _ a0 _ (fun _=>undef) ⟨by simp,?_,rfl,rfl,?_,?_⟩ (fun j _=>hz j) (by simp)
 ·intro j i h _
  rw [hz] at h; cases h
 ·intro t ht
  have:lw (l.map (·.dst)) (fun i=>(Array.replicate l.toArray.size false).getD i false) t l.length=none:=by
   refine lw_of_none fun m _ ⟨h,_⟩=>?_
   rw [hz] at h; cases h
  rw [this]
 ·have e:(fun i=>(Array.replicate l.toArray.size false).getD i false)=fun _=>false:=funext hz
  rw [e]; exact hj0
end
end Go.Proofs.Ytbokoblnehgkaaa.Tw
