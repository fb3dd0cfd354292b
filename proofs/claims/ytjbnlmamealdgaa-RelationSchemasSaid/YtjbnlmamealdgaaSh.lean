/-
  Arguments of any shape as data.
-/
import Derived.Test.YtjbnlmamealdgaaLKit
import Derived.Deep.Slices
import Derived.ChangeArms
namespace Go.Proofs.Ytjbnlmamealdgaa.Gx
open Go Go.RowKit Tw B Nt Go.ChangeShapes
set_option linter.unusedVariables false
inductive Sh (P:Program):Ty->TypeId ⊕ (List Field×Nat)->Prop
 | bool {T:TypeId}:P.underlying T=some .bool->Sh P .bool (.inl T)
 | int {T:TypeId} {k:IntKind}:P.underlying T=some (.int k)->Sh P (.int k) (.inl T)
 | str {T:TypeId}:P.underlying T=some .string->Sh P .str (.inl T)
 | slice {T e:TypeId} {t:Ty}:P.underlying T=some (.slice e)->P.cellsOf e=t.size->Sh P t (.inl e)->Sh P (.slice t) (.inl T)
 | one {T:TypeId} {f:Field} {t:Ty}:P.underlying T=some (.struct #[f])->P.cellsOf T=t.size->Sh P t (.inr ([f],0))->Sh P (.one t) (.inl T)
 | pair {T:TypeId} {fs:Array Field} {t u:Ty}:P.underlying T=some (.struct fs)->P.cellsOf T=t.size+u.size->Sh P (.pair t u) (.inr (fs.toList,0))->Sh P (.pair t u) (.inl T)
 | last {f:Field} {t:Ty} {o:Nat}:f.offset=o->P.cellsOf f.type=t.size->Sh P t (.inl f.type)->Sh P t (.inr ([f],o))
 | more {f:Field} {l:List Field} {t u:Ty} {o:Nat}:f.offset=o->P.cellsOf f.type=t.size->Sh P t (.inl f.type)->Sh P u (.inr (l,o+t.size))->Sh P (.pair t u) (.inr (f::l,o))
section
variable {H:Type} {enc:TypeId×Value->H} {P:Program} {w:World} {base:Nat} {spare:Nat->Bool} {held:Bool}
def ShM (enc:TypeId×Value->H) (P:Program) (w:World) (base:Nat) (spare:Nat->Bool) (held:Bool) (t:Ty):TypeId ⊕ (List Field×Nat)->Prop
 | .inl T=>∀ fuel cs x,DataW.trod enc P w base spare held fuel T cs=some x->∃ d,rep t (fun _=>False) w cs d
 | .inr (L,o)=>∀ (cs:List Value),(∀ f∈L,∃ fuel x,DataW.trod enc P w base spare held fuel f.type ((cs.drop f.offset).take (P.cellsOf f.type))=some x)->cs.length=o+t.size->∃ d,rep t (fun _=>False) w (cs.drop o) d
theorem choose_list {α:Type} [Inhabited α] {n:Nat} {Q:Nat->α->Prop} (h:∀ i,i<n->∃ x,Q i x):∃ l:List α,l.length=n/\∀ i x,l[i]?=some x->Q i x:=by
 induction n with
 | zero=>exact ⟨[],rfl,fun i x hx=>by simp at hx⟩
 | succ n ih =>
  obtain ⟨l,h1,h2⟩:=ih fun i hi=>h i (by omega)
  obtain ⟨x,hx⟩:=h n (by omega)
  refine ⟨l++[x],by simp [h1],fun i y hy=>?_⟩
  rcases Nat.lt_or_ge i l.length with hl|hl
  ·rw [List.getElem?_append_left hl] at hy
   exact h2 i y hy
  ·rw [List.getElem?_append_right hl] at hy
   have:i-l.length=0:=by
    rcases Nat.eq_zero_or_pos (i-l.length) with h0|h0
    ·exact h0
    ·rw [List.getElem?_eq_none (by simp; omega)] at hy; cases hy
   rw [this] at hy
   cases hy
   have:i=n:=by omega
   subst this
   exact hx
theorem addr_plain (b x y:Nat):(⟨b,x,none⟩:Addr).add y=⟨b,x+y,none⟩:=by
 unfold Addr.add
 split
 ·rename_i h
  simp_all
 ·rfl
theorem rep_trod {t:Ty} {s:TypeId ⊕ (List Field×Nat)} (h:Sh P t s):ShM enc P w base spare held t s:=by
 induction h with
 | bool ht =>
  intro fuel cs x hx
  obtain ⟨b,rfl,-⟩:=DataW.trod_bool ht hx
  exact ⟨b,rfl⟩
 | int ht =>
  intro fuel cs x hx
  obtain ⟨n,rfl,-,hw⟩:=DataW.trod_int ht hx
  exact ⟨n,rfl,inR_of_wf hw⟩
 | str ht =>
  intro fuel cs x hx
  obtain ⟨s,rfl,-,hw⟩:=DataW.trod_string ht hx
  exact ⟨s.data.toList,rfl,by simpa using hw⟩
 | @slice T e t ht hc _ ih =>
  intro fuel cs x hx
  rcases Deep.open_slice ht hx with ⟨rfl,-⟩|⟨a,len,cap,m',n,D,Pl,rfl,hb,hl,hm,hmm,rfl,hel⟩
  ·exact ⟨[],none,0,rfl,Nat.le_refl _,Nat.zero_le _,fun _=>rfl,fun h=>absurd rfl h⟩
  ·have hlm:len<=m':=by rw [hmm]; split<;>omega
   have hin:Inhabited t.den:=⟨zd t⟩
   have h2:∀ i,i<len->∃ d:t.den,∃ cs',w.cells? base (a.add (i*t.size)) t.size=some cs'/\rep t (fun _=>False) w cs' d:=by
    intro i hi
    obtain ⟨cs',g1,g2⟩:=hel i (by omega)
    rw [hc] at g1
    obtain ⟨d,hd⟩:=ih n cs' _ g2
    exact ⟨d,cs',g1,hd⟩
   obtain ⟨l,hl1,hl2⟩:=choose_list h2
   subst hl1
   refine ⟨l,some a,cap,rfl,hl,hm,(fun h=>by cases h),fun hne=>?_⟩
   obtain ⟨b,off,spot⟩:=a
   have hpos:0<l.length:=List.length_pos_iff.2 hne
   obtain ⟨cs0,g1,g2⟩:=hl2 0 _ (List.getElem?_eq_getElem hpos)
   obtain ⟨-,k1,k2⟩:=World.cells?_some g1
   have hsz:=size_pos t
   have hc0:=k2 0 hsz
   rw [List.getElem?_eq_getElem (by omega)] at hc0
   have hspot:spot=none:=by simpa [Addr.add] using World.cell?_spot hc0
   subst hspot
   have hc1:w.cell? ⟨b,off,none⟩=some cs0[0]:=by simpa [Addr.add] using hc0
   obtain ⟨C,T',f,q1,-⟩:=cell_block hc1
   refine ⟨b,off,C,T',f,rfl,fun h=>h.elim,q1,fun i x hi=>?_⟩
   obtain ⟨cs',r1,r2⟩:=hl2 i x hi
   obtain ⟨-,s1,s2⟩:=World.cells?_some r1
   have:(C.toList.drop (off+i*t.size)).take t.size=cs':=by
    apply List.ext_getElem?
    intro j
    rw [List.getElem?_take]
    split
    ·rename_i hj
     have hq:=s2 j hj
     rw [List.getElem?_drop,<-hq,addr_plain,addr_plain]
     simp [World.cell?,q1]
    ·rename_i hj
     rw [List.getElem?_eq_none (by omega)]
   rw [this]
   exact r2
 | @one T f t ht hc _ ih =>
  intro fuel cs x hx
  obtain ⟨xs,n,rfl,rfl,hlen,hxl,hf⟩:=DataW.trod_struct ht hx
  have hxl:xs.length=1:=hxl
  have:=ih cs (fun g hg=>by
   rw [List.mem_singleton.1 hg]
   have:=hf 0 f rfl
   rw [List.getElem?_eq_getElem (by omega)] at this
   exact ⟨n,_,this⟩) (by rw [hlen,hc,Nat.zero_add])
  rw [List.drop_zero] at this
  exact this
 | @pair T fs t u ht hc _ ih =>
  intro fuel cs x hx
  obtain ⟨xs,n,rfl,rfl,hlen,hxl,hf⟩:=DataW.trod_struct ht hx
  have:=ih cs (fun f hfm=>by
   obtain ⟨i,hi,rfl⟩:=List.mem_iff_getElem.1 hfm
   have hi2:i<fs.size:=by simpa using hi
   have:=hf i fs[i] (by simp [hi2])
   rw [List.getElem?_eq_getElem (by omega)] at this
   exact ⟨n,_,this⟩) (by rw [hlen,hc,Nat.zero_add]; rfl)
  rw [List.drop_zero] at this
  exact this
 | @last f t o ho hc _ ih =>
  intro cs hcs hl
  obtain ⟨fuel,x,hx⟩:=hcs f List.mem_cons_self
  rw [ho,hc] at hx
  obtain ⟨d,hd⟩:=ih fuel _ _ hx
  rw [List.take_of_length_le (by rw [List.length_drop]; omega)] at hd
  exact ⟨d,hd⟩
 | @more f l t u o ho hc _ _ ih1 ih2 =>
  intro cs hcs hl
  obtain ⟨fuel,x,hx⟩:=hcs f List.mem_cons_self
  rw [ho,hc] at hx
  obtain ⟨d,hd⟩:=ih1 fuel _ _ hx
  obtain ⟨d2,hd2⟩:=ih2 cs (fun g hg=>hcs g (List.mem_cons_of_mem _ hg)) (by rw [hl]; simp only [Ty.size]; omega)
  refine ⟨(d,d2),hd,?_⟩
  rw [List.drop_drop]
  exact hd2
end
end Go.Proofs.Ytjbnlmamealdgaa.Gx
