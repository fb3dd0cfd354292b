/-
  G1, G2, G3, G4, G5, G6, G7, G7b, G8, in one text: see the remarks at the head of each part.
-/
import Derived.Test.YtbokoblnehgkaaaMTw
import Derived.BigCall
import Derived.LoopN
import Derived.Laws.OwnMore
import Derived.Laws.Strings
import Derived.Laws.Slices
import Derived.Laws.MakeOwn
import Derived.Laws.Rows
import Derived.Laws.Small
import Derived.Laws.IdiomStrings
import Derived.Laws.BytesArg
import Derived.Great.BuildSlice
import Derived.DataReads
import Derived.Laws.Tables
namespace Go.Proofs.Ytbokoblnehgkaaa.Gx
open Go Go.RowKit Tw
set_option linter.unusedVariables false
inductive Ty where
 | bool
 | int (k:IntKind)
 | str
 | slice (t:Ty)
 | pair (t u:Ty)
 | one (t:Ty)
 | fn
@[reducible] def Ty.den:Ty->Type
 | .bool=>Bool
 | .int _=>Int
 | .str=>List UInt8
 | .slice t=>List t.den
 | .pair t u=>t.den×u.den
 | .one t=>t.den
 | .fn=>Unit
def Ty.size:Ty->Nat
 | .pair t u=>t.size+u.size
 | .one t=>t.size
 | _=>1
def Ty.isAgg:Ty->Bool
 | .pair _ _|.one _=>true
 | _=>false
def Ty.wrap (t:Ty) (cs:List Value):Value:=if t.isAgg then .agg cs.toArray else cs.headD undef
def lo:IntKind->Int
 | .i8 => -128|.i16 => -32768|.i32 => -2147483648|.i64 => -9223372036854775808|_=>0
def hi:IntKind->Int
 | .i8=>127|.i16=>32767|.i32=>2147483647|.i64=>9223372036854775807
 | .u8=>255|.u16=>65535|.u32=>4294967295|.u64=>18446744073709551615
abbrev inR (k:IntKind) (n:Int):Prop:=lo k<=n/\n<=hi k
theorem wrap_in {k:IntKind} {n:Int} (h:inR k n):k.wrap n=n:=by
 cases k<;>simp only [inR,lo,hi] at h<;>simp only [IntKind.wrap,IntKind.bits,IntKind.signed]<;>simp<;>omega
structure Ev (X:Nat->Prop) (w w':World):Prop where
 size:w.heap.size<=w'.heap.size
 block:∀ k,k<w.heap.size->¬X k->w'.heap[k]?=w.heap[k]?
theorem Ev.of_below {X:Nat->Prop} {w w':World} (h:Below w.heap.size w w'):Ev X w w':=⟨h.size,fun k hk _=>h.block k hk⟩
theorem heap_lt {w:World} {b:Nat} {o:Obj} (h:w.heap[b]?=some o):b<w.heap.size:=by
 rcases Nat.lt_or_ge b w.heap.size with h'|h'
 ·exact h'
 ·rw [Array.getElem?_eq_none h'] at h; cases h
def rep:(t:Ty)->(Nat->Prop)->World->List Value->t.den->Prop
 | .bool,_,_,cs,b=>cs=[.bool b]
 | .int k,_,_,cs,n=>cs=[.int k n]/\inR k n
 | .str,_,_,cs,s=>cs=[.string ⟨s.toArray⟩]/\s.length<=maxLen
 | .slice t,X,w,cs,l=>∃ a cap,cs=[.slice a l.length cap]/\l.length<=cap/\cap<=maxLen/\(a=none->cap=0) /\
     (l≠[]->∃ b off C T f,a=some ⟨b,off,none⟩/\¬X b/\w.heap[b]?=some (.cells C T f) /\
      ∀ i x,l[i]?=some x->rep t X w ((C.toList.drop (off+i*t.size)).take t.size) x)
 | .pair t u,X,w,cs,p=>rep t X w (cs.take t.size) p.1/\rep u X w (cs.drop t.size) p.2
 | .one t,X,w,cs,p=>rep t X w cs p
 | .fn,_,_,cs,_=>cs=[.nilFunc]
theorem rep_len:∀ {t:Ty} {X:Nat->Prop} {w:World} {cs:List Value} {a:t.den},rep t X w cs a->cs.length=t.size
 | .bool,_,_,_,_,h=>by rw [h]; rfl
 | .int _,_,_,_,_,h=>by rw [h.1]; rfl
 | .str,_,_,_,_,h=>by rw [h.1]; rfl
 | .slice _,_,_,_,_,h=>by obtain ⟨a,cap,e,_⟩:=h; rw [e]; rfl
 | .pair t u,_,_,cs,_,h=>by
  have h1:=rep_len h.1
  have h2:=rep_len h.2
  simp only [List.length_take,List.length_drop] at h1 h2
  simp only [Ty.size]
  rcases Nat.lt_or_ge cs.length t.size with hc|hc
  ·have:min t.size cs.length=cs.length:=by omega
   omega
  ·omega
 | .one t,_,_,_,_,h=>rep_len (t:=t) h
 | .fn,_,_,_,_,h=>by rw [h]; rfl
theorem rep_one:∀ {t:Ty} {X:Nat->Prop} {w:World} {cs:List Value} {a:t.den},rep t X w cs a->∀ c∈cs,c.oneCell'=true
 | .bool,_,_,_,_,h,c,hc=>by rw [h] at hc; simp at hc; subst hc; rfl
 | .int _,_,_,_,_,h,c,hc=>by rw [h.1] at hc; simp at hc; subst hc; rfl
 | .str,_,_,_,_,h,c,hc=>by rw [h.1] at hc; simp at hc; subst hc; rfl
 | .slice _,_,_,_,_,h,c,hc=>by obtain ⟨a,cap,e,_⟩:=h; rw [e] at hc; simp at hc; subst hc; rfl
 | .pair t u,_,_,cs,_,h,c,hc=>by
  rw [<-List.take_append_drop t.size cs] at hc
  rcases List.mem_append.1 hc with hc|hc
  ·exact rep_one h.1 c hc
  ·exact rep_one h.2 c hc
 | .one t,_,_,_,_,h,c,hc=>rep_one (t:=t) h c hc
 | .fn,_,_,_,_,h,c,hc=>by rw [h] at hc; simp at hc; subst hc; rfl
theorem rep_st:∀ {t:Ty} {X:Nat->Prop} {w w':World} {cs:List Value} {a:t.den},rep t X w cs a->Ev X w w'->rep t X w' cs a
 | .bool,_,_,_,_,_,h,_=>h
 | .int _,_,_,_,_,_,h,_=>h
 | .str,_,_,_,_,_,h,_=>h
 | .slice t,_,_,_,_,_,⟨a,cap,h1,h2,h3,h4,h5⟩,e=>⟨a,cap,h1,h2,h3,h4,fun hn=>by
     obtain ⟨b,off,C,T,f,g1,g2,g3,g4⟩:=h5 hn
     exact ⟨b,off,C,T,f,g1,g2,by rw [e.block b (heap_lt g3) g2]; exact g3,fun i x hx=>rep_st (g4 i x hx) e⟩⟩
 | .pair t u,_,_,_,_,_,h,e=>⟨rep_st h.1 e,rep_st h.2 e⟩
 | .one t,_,_,_,_,_,h,e=>rep_st (t:=t) h e
 | .fn,_,_,_,_,_,h,_=>h
theorem rep_anti:∀ {t:Ty} {X Y:Nat->Prop} {w:World} {cs:List Value} {a:t.den},rep t X w cs a->(∀ b,Y b->X b∨w.heap.size<=b)->rep t Y w cs a
 | .bool,_,_,_,_,_,h,_=>h
 | .int _,_,_,_,_,_,h,_=>h
 | .str,_,_,_,_,_,h,_=>h
 | .slice t,_,_,_,_,_,⟨a,cap,h1,h2,h3,h4,h5⟩,e=>⟨a,cap,h1,h2,h3,h4,fun hn=>by
     obtain ⟨b,off,C,T,f,g1,g2,g3,g4⟩:=h5 hn
     refine ⟨b,off,C,T,f,g1,fun hy=>?_,g3,fun i x hx=>rep_anti (g4 i x hx) e⟩
     rcases e b hy with h|h
     ·exact g2 h
     ·have:=heap_lt g3; omega⟩
 | .pair t u,_,_,_,_,_,h,e=>⟨rep_anti h.1 e,rep_anti h.2 e⟩
 | .one t,_,_,_,_,_,h,e=>rep_anti (t:=t) h e
 | .fn,_,_,_,_,_,h,_=>h
inductive AV where
 | any
 | val (v:Value)
 | lit (b:Bool)
 | dat (t:Ty) (a:t.den)
 | elt (t:Ty) (a:t.den)
 | own (c:Nat)
 | ref (c off:Nat)
 | tup (l:AV)
 | agg (l:AV)
 | clo (f:FuncId) (l:AV)
 | ix (c i sz:Nat)
 | ixf (c i sz o:Nat)
 | sli (c n:Nat)
 | hdr (d k:Nat)
 | hix (d k i sz:Nat)
 | tl (c i:Nat)
 | bic (c:Prop)
 | imp (c:Prop) (x:AV)
 | nil
 | cons (x l:AV)
def blk:Value->Option Nat
 | .slice (some a) _ _=>some a.block
 | .pointer (some a)=>some a.block
 | _=>none
def sliV (v:Value) (n:Nat):Prop:=(v=.slice none 0 0/\n=0)∨∃ g cap,v=.slice (some ⟨g,0,none⟩) n cap
theorem sliV_one {v:Value} {n:Nat} (h:sliV v n):v.oneCell'=true:=by
 rcases h with ⟨rfl,_⟩|⟨g,cap,rfl⟩<;>rfl
def tlV (v:Value) (i:Nat) (u:Value):Prop:=(v=.slice none 0 0/\u=.slice none 0 0)∨∃ g n cap off,v=.slice (some ⟨g,0,none⟩) n cap/\u=.slice (some ⟨g,off,none⟩) (n-i) (cap-i)/\(i<n->off=i)
def m (ρ:List Value) (X:Nat->Prop) (w:World):AV->List Value->Prop
 | .any,vs=>∃ v,vs=[v]
 | .val x,vs=>vs=[x]
 | .lit b,vs=>vs=[.bool b]
 | .dat t a,vs=>∃ cs,rep t X w cs a/\vs=[t.wrap cs]
 | .elt t a,vs=>∃ b off C T f,vs=[.pointer (some ⟨b,off,none⟩)]/\¬X b/\w.heap[b]?=some (.cells C T f)/\rep t X w ((C.toList.drop off).take t.size) a
 | .own c,vs=>∃ v,ρ[c]?=some v/\v.oneCell'=true/\vs=[v]
 | .ref c off,vs=>∃ v b,ρ[c]?=some v/\blk v=some b/\vs=[.pointer (some ⟨b,off,none⟩)]
 | .tup l,vs=>∃ us,vs=[.tuple us.toArray]/\m ρ X w l us
 | .agg l,vs=>∃ us,vs=[.agg us.toArray]/\m ρ X w l us/\∀ u∈us,u.oneCell'=true
 | .clo f l,vs=>∃ us,vs=[.func (.func f) #[] us.toArray]/\m ρ X w l us
 | .ix c i sz,vs=>∃ v b,ρ[c]?=some v/\blk v=some b/\vs=[.pointer (some ⟨b,i*sz,none⟩)]
 | .ixf c i sz o,vs=>∃ v b,ρ[c]?=some v/\blk v=some b/\vs=[.pointer (some ⟨b,i*sz+o,none⟩)]
 | .sli c n,vs=>∃ v,ρ[c]?=some v/\sliV v n/\vs=[v]
 | .hdr d k,vs=>∃ us v,ρ[d]?=some (.tuple us)/\us.toList[k]?=some v/\v.oneCell'=true/\vs=[v]
 | .hix d k i sz,vs=>∃ us v b,ρ[d]?=some (.tuple us)/\us.toList[k]?=some v/\blk v=some b/\vs=[.pointer (some ⟨b,i*sz,none⟩)]
 | .tl c i,vs=>∃ v u,ρ[c]?=some v/\tlV v i u/\vs=[u]
 | .bic c,vs=>∃ b,vs=[.bool b]/\(b=true->c)
 | .imp c x,vs=>∃ v,vs=[v]/\(c->m ρ X w x [v])/\(¬c->v=undef)
 | .nil,vs=>vs=[]
 | .cons x l,vs=>∃ v us,vs=v::us/\m ρ X w x [v]/\m ρ X w l us
theorem m_st {ρ:List Value} {X:Nat->Prop} {w w':World} (e:Ev X w w'):∀ {x:AV} {vs:List Value},m ρ X w x vs->m ρ X w' x vs
 | .any,_,h=>h
 | .val _,_,h=>h
 | .lit _,_,h=>h
 | .dat t a,_,⟨cs,h1,h2⟩=>⟨cs,rep_st h1 e,h2⟩
 | .elt t a,_,⟨b,off,C,T,f,h1,h2,h3,h4⟩=>⟨b,off,C,T,f,h1,h2,by rw [e.block b (heap_lt h3) h2]; exact h3,rep_st h4 e⟩
 | .own _,_,h=>h
 | .ref _ _,_,h=>h
 | .tup l,_,⟨us,h1,h2⟩=>⟨us,h1,m_st e h2⟩
 | .agg l,_,⟨us,h1,h2,h3⟩=>⟨us,h1,m_st e h2,h3⟩
 | .clo f l,_,⟨us,h1,h2⟩=>⟨us,h1,m_st e h2⟩
 | .ix _ _ _,_,h=>h
 | .ixf _ _ _ _,_,h=>h
 | .sli _ _,_,h=>h
 | .hdr _ _,_,h=>h
 | .hix _ _ _ _,_,h=>h
 | .tl _ _,_,h=>h
 | .bic _,_,h=>h
 | .imp c x,_,⟨v,h1,h2,h3⟩=>⟨v,h1,fun hc=>m_st e (h2 hc),h3⟩
 | .nil,_,h=>h
 | .cons x l,_,⟨v,us,h1,h2,h3⟩=>⟨v,us,h1,m_st e h2,m_st e h3⟩
theorem m_anti {ρ:List Value} {X Y:Nat->Prop} {w:World} (e:∀ b,Y b->X b∨w.heap.size<=b):∀ {x:AV} {vs:List Value},m ρ X w x vs->m ρ Y w x vs
 | .any,_,h=>h
 | .val _,_,h=>h
 | .lit _,_,h=>h
 | .dat t a,_,⟨cs,h1,h2⟩=>⟨cs,rep_anti h1 e,h2⟩
 | .elt t a,_,⟨b,off,C,T,f,h1,h2,h3,h4⟩=>⟨b,off,C,T,f,h1,fun hy=>by
     rcases e b hy with h|h
     ·exact h2 h
     ·have:=heap_lt h3; omega,h3,rep_anti h4 e⟩
 | .own _,_,h=>h
 | .ref _ _,_,h=>h
 | .tup l,_,⟨us,h1,h2⟩=>⟨us,h1,m_anti e h2⟩
 | .agg l,_,⟨us,h1,h2,h3⟩=>⟨us,h1,m_anti e h2,h3⟩
 | .clo f l,_,⟨us,h1,h2⟩=>⟨us,h1,m_anti e h2⟩
 | .ix _ _ _,_,h=>h
 | .ixf _ _ _ _,_,h=>h
 | .sli _ _,_,h=>h
 | .hdr _ _,_,h=>h
 | .hix _ _ _ _,_,h=>h
 | .tl _ _,_,h=>h
 | .bic _,_,h=>h
 | .imp c x,_,⟨v,h1,h2,h3⟩=>⟨v,h1,fun hc=>m_anti e (h2 hc),h3⟩
 | .nil,_,h=>h
 | .cons x l,_,⟨v,us,h1,h2,h3⟩=>⟨v,us,h1,m_anti e h2,m_anti e h3⟩
theorem ap {ρ l:List Value} {c:Nat} {v:Value} (h:ρ[c]?=some v):(ρ++l)[c]?=some v:=by
 have hc:c<ρ.length:=by
  rcases Nat.lt_or_ge c ρ.length with h'|h'
  ·exact h'
  ·rw [List.getElem?_eq_none h'] at h; cases h
 rw [List.getElem?_append_left hc]; exact h
theorem m_app' {ρ:List Value} (l:List Value) {X:Nat->Prop} {w:World}:∀ {x:AV} {vs:List Value},m ρ X w x vs->m (ρ++l) X w x vs
 | .any,_,h=>h
 | .val _,_,h=>h
 | .lit _,_,h=>h
 | .dat t a,_,h=>h
 | .elt t a,_,h=>h
 | .own c,_,⟨v,h,h'⟩=>⟨v,ap h,h'⟩
 | .ref _ _,_,⟨v,b,h,h'⟩=>⟨v,b,ap h,h'⟩
 | .tup _,_,⟨us,h1,h2⟩=>⟨us,h1,m_app' l h2⟩
 | .agg _,_,⟨us,h1,h2,h3⟩=>⟨us,h1,m_app' l h2,h3⟩
 | .clo f _,_,⟨us,h1,h2⟩=>⟨us,h1,m_app' l h2⟩
 | .ix _ _ _,_,⟨v,b,h,h'⟩=>⟨v,b,ap h,h'⟩
 | .ixf _ _ _ _,_,⟨v,b,h,h'⟩=>⟨v,b,ap h,h'⟩
 | .sli _ _,_,⟨v,h,h'⟩=>⟨v,ap h,h'⟩
 | .hdr _ _,_,⟨us,v,h,h'⟩=>⟨us,v,ap h,h'⟩
 | .hix _ _ _ _,_,⟨us,v,b,h,h'⟩=>⟨us,v,b,ap h,h'⟩
 | .tl _ _,_,⟨v,u,h,h'⟩=>⟨v,u,ap h,h'⟩
 | .bic _,_,h=>h
 | .imp c x,_,⟨v,h1,h2,h3⟩=>⟨v,h1,fun hc=>m_app' l (h2 hc),h3⟩
 | .nil,_,h=>h
 | .cons x k,_,⟨v,us,h1,h2,h3⟩=>⟨v,us,h1,m_app' l h2,m_app' l h3⟩
def staleA (c:Nat):AV->AV
 | .own c'=>match Nat.beq c' c with|true=>.any|false=>.own c'
 | .ref c' o=>match Nat.beq c' c with|true=>.any|false=>.ref c' o
 | .ix c' i sz=>match Nat.beq c' c with|true=>.any|false=>.ix c' i sz
 | .ixf c' i sz o=>match Nat.beq c' c with|true=>.any|false=>.ixf c' i sz o
 | .sli c' n=>match Nat.beq c' c with|true=>.any|false=>.sli c' n
 | .hdr d k=>match Nat.beq d c with|true=>.any|false=>.hdr d k
 | .hix d k i sz=>match Nat.beq d c with|true=>.any|false=>.hix d k i sz
 | .tl c' i=>match Nat.beq c' c with|true=>.any|false=>.tl c' i
 | .cons x l=>.cons (staleA c x) (staleA c l)
 | .tup l=>.tup (staleA c l)
 | .agg l=>.agg (staleA c l)
 | .clo f l=>.clo f (staleA c l)
 | .imp p x=>.imp p (staleA c x)
 | x=>x
theorem set_ne {ρ:List Value} {c c':Nat} {v u:Value} (h:ρ[c']?=some v) (hb:Nat.beq c' c=false):(ρ.set c u)[c']?=some v:=by
 rw [List.getElem?_set_ne (fun e=>by rw [e,Nat.beq_refl] at hb; cases hb)]; exact h
theorem m_stale {ρ:List Value} {c:Nat} (u:Value) {X:Nat->Prop} {w:World}:∀ {x:AV} {vs:List Value},m ρ X w x vs->m (ρ.set c u) X w (staleA c x) vs
 | .any,_,h=>h
 | .val _,_,h=>h
 | .lit _,_,h=>h
 | .dat t a,_,h=>h
 | .elt t a,_,h=>h
 | .own c',_,⟨v,h,h'⟩=>by
  unfold staleA
  split
  ·exact ⟨v,h'.2⟩
  ·rename_i e; exact ⟨v,set_ne h e,h'⟩
 | .ref c' _,_,⟨v,b,h,h1,h2⟩=>by
  unfold staleA
  split
  ·exact ⟨_,h2⟩
  ·rename_i e; exact ⟨v,b,set_ne h e,h1,h2⟩
 | .tup _,_,⟨us,h1,h2⟩=>⟨us,h1,m_stale u h2⟩
 | .agg _,_,⟨us,h1,h2,h3⟩=>⟨us,h1,m_stale u h2,h3⟩
 | .clo f _,_,⟨us,h1,h2⟩=>⟨us,h1,m_stale u h2⟩
 | .ixf c' _ _ _,_,⟨v,b,h,h1,h2⟩=>by
  unfold staleA
  split
  ·exact ⟨_,h2⟩
  ·rename_i e; exact ⟨v,b,set_ne h e,h1,h2⟩
 | .ix c' _ _,_,⟨v,b,h,h1,h2⟩=>by
  unfold staleA
  split
  ·exact ⟨_,h2⟩
  ·rename_i e; exact ⟨v,b,set_ne h e,h1,h2⟩
 | .sli c' n,_,⟨v,h,h'⟩=>by
  unfold staleA
  split
  ·exact ⟨v,h'.2⟩
  ·rename_i e; exact ⟨v,set_ne h e,h'⟩
 | .hdr d k,_,⟨us,v,h,h1,h2,h3⟩=>by
  unfold staleA
  split
  ·exact ⟨v,h3⟩
  ·rename_i e; exact ⟨us,v,set_ne h e,h1,h2,h3⟩
 | .hix d k i sz,_,⟨us,v,b,h,h1,h2,h3⟩=>by
  unfold staleA
  split
  ·exact ⟨_,h3⟩
  ·rename_i e; exact ⟨us,v,b,set_ne h e,h1,h2,h3⟩
 | .tl c' i,_,⟨v,u0,h,h1,h2⟩=>by
  unfold staleA
  split
  ·exact ⟨u0,h2⟩
  ·rename_i e; exact ⟨v,u0,set_ne h e,h1,h2⟩
 | .bic _,_,h=>h
 | .imp p x,_,⟨v,h1,h2,h3⟩=>⟨v,h1,fun hc=>m_stale u (h2 hc),h3⟩
 | .nil,_,h=>h
 | .cons x k,_,⟨v,us,h1,h2,h3⟩=>⟨v,us,h1,m_stale u h2,m_stale u h3⟩
end Go.Proofs.Ytbokoblnehgkaaa.Gx
namespace Go.Proofs.Ytbokoblnehgkaaa.Gx
open Go Go.RowKit Tw
set_option linter.unusedVariables false
inductive CT where
 | box (T:TypeId) (l:AV)
 | row (T:TypeId) (t:Ty) (l:List t.den)
 | nrow (T:TypeId) (o:Bool) (d:Nat) (hl:Option Nat)
 | bag (T:TypeId) (t:Ty) (ll:List (List t.den))
structure St where
 sl:List (Nat×AV)
 ck:List (Nat×CT)
 nx:Nat
def get? {α:Type}:List (Nat×α)->Nat->Option α
 | [],_=>none
 | (k,x)::l,t=>match Nat.beq k t with
  | true=>some x
  | false=>get? l t
def del {α:Type}:List (Nat×α)->Nat->List (Nat×α)
 | [],_=>[]
 | (k,x)::l,t=>match Nat.beq k t with
  | true=>del l t
  | false=>(k,x)::del l t
def set1 {α:Type}:List (Nat×α)->Nat->α->List (Nat×α)
 | [],t,y=>[(t,y)]
 | (k,x)::l,t,y=>match Nat.beq k t with
  | true=>(t,y)::l
  | false=>(k,x)::set1 l t y
theorem beq_t {k t:Nat} (h:Nat.beq k t=true):k=t:=Nat.eq_of_beq_eq_true h
theorem beq_f {k t:Nat} (h:Nat.beq k t=false):k≠t:=Nat.ne_of_beq_eq_false h
theorem get?_mem {α:Type} {x:α} {t:Nat}:∀ {l:List (Nat×α)},get? l t=some x->(t,x)∈l
 | (k,y)::l,h=>by
  unfold get? at h
  split at h
  ·rename_i e; cases h; rw [beq_t e]; exact List.mem_cons_self
  ·exact List.mem_cons_of_mem _ (get?_mem h)
theorem mem_del {α:Type} {x:Nat×α} {t:Nat}:∀ {l:List (Nat×α)},x∈del l t->x∈l/\x.1≠t
 | (k,y)::l,h=>by
  unfold del at h
  split at h
  ·exact ⟨List.mem_cons_of_mem _ (mem_del h).1,(mem_del h).2⟩
  ·rename_i e
   rcases List.mem_cons.1 h with rfl|h
   ·exact ⟨List.mem_cons_self,beq_f e⟩
   ·exact ⟨List.mem_cons_of_mem _ (mem_del h).1,(mem_del h).2⟩
theorem keys_del {α:Type} {t:Nat}:∀ {l:List (Nat×α)},List.Sublist ((del l t).map (·.1)) (l.map (·.1))
 | []=>.slnil
 | (k,y)::l=>by
  unfold del
  split
  ·exact .cons _ keys_del
  ·exact .cons_cons _ keys_del
theorem mem_set1 {α:Type} {x:Nat×α} {t:Nat} {y:α}:∀ {l:List (Nat×α)},(l.map (·.1)).Nodup->x∈set1 l t y->x=(t,y)∨(x∈l/\x.1≠t)
 | [],_,h=>by simp [set1] at h; exact .inl h
 | (k,z)::l,hn,h=>by
  simp only [List.map_cons,List.nodup_cons] at hn
  unfold set1 at h
  split at h
  ·rename_i e
   rcases List.mem_cons.1 h with rfl|h
   ·exact .inl rfl
   ·refine .inr ⟨List.mem_cons_of_mem _ h,fun e'=>hn.1 ?_⟩
    rw [beq_t e,<-e']; exact List.mem_map_of_mem h
  ·rename_i e
   rcases List.mem_cons.1 h with rfl|h
   ·exact .inr ⟨List.mem_cons_self,beq_f e⟩
   ·rcases mem_set1 hn.2 h with h|h
    ·exact .inl h
    ·exact .inr ⟨List.mem_cons_of_mem _ h.1,h.2⟩
theorem keys_set1 {α:Type} {t:Nat} {y z:α}:∀ {l:List (Nat×α)},get? l t=some z->(set1 l t y).map (·.1)=l.map (·.1)
 | (k,x)::l,h=>by
  unfold get? at h
  unfold set1
  split at h
  ·rename_i e; simp [beq_t e]
  ·rename_i e; simp [keys_set1 h]
def zc:Ty->List Value
 | .bool=>[.bool false]
 | .int k=>[.int k 0]
 | .str=>[.string ⟨#[]⟩]
 | .slice _=>[.slice none 0 0]
 | .pair t u=>zc t++zc u
 | .one t=>zc t
 | .fn=>[.nilFunc]
def zd:(t:Ty)->t.den
 | .bool=>false
 | .int _=>(0:Int)
 | .str=>[]
 | .slice _=>[]
 | .pair t u=>(zd t,zd u)
 | .one t=>zd t
 | .fn=>()
theorem zc_len:∀ t:Ty,(zc t).length=t.size
 | .bool=>rfl
 | .int _=>rfl
 | .str=>rfl
 | .slice _=>rfl
 | .pair t u=>by simp [zc,Ty.size,zc_len t,zc_len u]
 | .one t=>zc_len t
 | .fn=>rfl
theorem rep_zero (X:Nat->Prop) (w:World):∀ t:Ty,rep t X w (zc t) (zd t)
 | .bool=>rfl
 | .int k=>⟨rfl,by cases k<;>simp [inR,lo,hi,zd]⟩
 | .str=>⟨rfl,by simp [zd,maxLen]⟩
 | .slice _=>⟨none,0,rfl,by simp [zd],by simp [maxLen],fun _=>rfl,fun h=>absurd rfl h⟩
 | .pair t u=>by
  refine ⟨?_,?_⟩
  ·rw [show (zc (.pair t u)).take t.size=zc t by simp [zc,<-zc_len t]]; exact rep_zero X w t
  ·rw [show (zc (.pair t u)).drop t.size=zc u by simp [zc,<-zc_len t]]; exact rep_zero X w u
 | .one t=>rep_zero X w t
 | .fn=>rfl
structure TE where
 ty:Ty
 elem:Nat
 bytes:Nat
 nf:Nat
def aggD:TypeDesc->Bool
 | .struct _|.array _ _=>true
 | _=>false
def fldP:(nf:Nat)->(t:Ty)->(f:Nat)->Option (Nat×((u:Ty)×(t.den->u.den)))
 | 0,_,_=>none
 | nf+1,t,f=>match nf with
  | 0=>match f with
   | 0=>some (0,⟨t,fun p=>p⟩)
   | _+1=>none
  | nf'+1=>match t with
   | .pair t u=>match f with
    | 0=>some (0,⟨t,fun p=>p.1⟩)
    | f'+1=>match fldP nf u f' with
     | some (o,⟨v,g⟩)=>some (t.size+o,⟨v,fun p=>g p.2⟩)
     | none=>none
   | _=>none
def fld (t:Ty) (nf f:Nat):Option (Nat×((u:Ty)×(t.den->u.den))) :=
 match Nat.beq nf 1 with
 | true=>match t with
  | .one u=>match f with
   | 0=>some (0,⟨u,fun p=>p⟩)
   | _+1=>none
  | _=>none
 | false=>fldP nf t f
theorem fldP_spec:∀ {nf:Nat} {t:Ty} {f o:Nat} {u:Ty} {g:t.den->u.den},fldP nf t f=some (o,⟨u,g⟩)->o+u.size<=t.size/\∀ {X w cs a},rep t X w cs a->rep u X w ((cs.drop o).take u.size) (g a)
 | 0,_,_,_,_,_,h=>by cases h
 | nf+1,t,f,o,u,g,h=>by
  unfold fldP at h
  split at h
  ·split at h
   ·cases h
    refine ⟨by omega,fun {X w cs a} hr=>?_⟩
    rw [List.drop_zero,List.take_of_length_le (by rw [rep_len hr]; exact Nat.le_refl _)]; exact hr
   ·cases h
  ·split at h
   ·split at h
    ·cases h
     refine ⟨by simp only [Ty.size]; omega,fun {X w cs a} hr=>?_⟩
     rw [List.drop_zero]; exact hr.1
    ·split at h
     ·rename_i o' v g' e
      cases h
      obtain ⟨h1,h2⟩:=fldP_spec e
      refine ⟨by simp only [Ty.size]; omega,fun {X w cs a} hr=>?_⟩
      have:=h2 hr.2
      rwa [List.drop_drop] at this
     ·cases h
   ·cases h
theorem fld_spec {t:Ty} {nf f o:Nat} {u:Ty} {g:t.den->u.den} (h:fld t nf f=some (o,⟨u,g⟩)):o+u.size<=t.size/\∀ {X w cs a},rep t X w cs a->rep u X w ((cs.drop o).take u.size) (g a):=by
 unfold fld at h
 split at h
 ·split at h
  ·split at h
   ·cases h
    refine ⟨by simp only [Ty.size]; omega,fun {X w cs a} hr=>?_⟩
    rw [List.drop_zero,List.take_of_length_le (by rw [rep_len (t:=.one _) hr]; exact Nat.le_refl _)]; exact hr
   ·cases h
  ·cases h
 ·exact fldP_spec h
def fieldOk (P:Program) (T:TypeId) (e:TE) (f:Nat):Bool :=
 match fld e.ty e.nf f,P.underlying T with
 | some (o,⟨u,_⟩),some (.struct fs)=>match fs[f]? with
  | some F=>F.offset == o&&(match P.info? F.type with|some i=>i.size != 0&&i.size == u.size|none=>false)
  | none=>false
 | _,_=>false
def structM (P:Program) (T:TypeId):Bool :=
 match P.underlying T with
 | some (.struct fs)=>(fs.toList.mapM (fun f=>(P.info? f.type).map fun i=>(f.offset,i.size))).isSome
 | _=>true
def sdB (P:Program) (T:TypeId) (e:TE):Bool :=
 match e.ty with
 | .slice _=>(match P.underlying T with|some (.slice k)=>Nat.beq k e.elem|_=>false)
 | .str=>(match P.underlying T with|some .string=>true|_=>false)
 | .int k=>(match P.underlying T with|some (.int k')=>decide (k'=k)|_=>false)
 | .bool=>(match P.underlying T with|some .bool=>true|_=>false)
 | _=>true
structure TyFact (P:Program) (T:TypeId) (e:TE):Prop where
 i:(P.info? T).map (fun i=>(i.zero,i.size,i.bytes))=some (some (e.ty.wrap (zc e.ty)),e.ty.size,e.bytes)
 u:(P.underlying T).map aggD=some e.ty.isAgg
 s0:sdB P T e=true
 f:(List.range e.nf).all (fieldOk P T e)=true
 m:structM P T=true
theorem TyFact.s {P:Program} {T:TypeId} {e:TE} (h:TyFact P T e):match e.ty with|.slice _=>P.underlying T=some (.slice e.elem)|.str=>P.underlying T=some .string|.int k=>P.underlying T=some (.int k)|.bool=>P.underlying T=some .bool|_=>True:=by
 have:=h.s0
 unfold sdB at this
 split
 ·rename_i e1
  simp only [e1] at this
  split at this
  ·rename_i e2; rw [e2,beq_t this]
  ·cases this
 ·rename_i e1
  simp only [e1] at this
  split at this
  ·rename_i e2; exact e2
  ·cases this
 ·rename_i k e1
  simp only [e1] at this
  split at this
  ·rename_i e2; rw [e2,of_decide_eq_true this]
  ·cases this
 ·rename_i e1
  simp only [e1] at this
  split at this
  ·rename_i e2; exact e2
  ·cases this
 ·trivial
end Go.Proofs.Ytbokoblnehgkaaa.Gx
namespace Go.Proofs.Ytbokoblnehgkaaa.Gx
open Go Go.RowKit Tw
set_option linter.unusedVariables false
inductive TEq:Ty->Ty->Type
 | refl (t:Ty):TEq t t
def keq:(k k':IntKind)->Option (TEq (.int k) (.int k'))
 | .i8,.i8=>some (.refl _)
 | .i16,.i16=>some (.refl _)
 | .i32,.i32=>some (.refl _)
 | .i64,.i64=>some (.refl _)
 | .u8,.u8=>some (.refl _)
 | .u16,.u16=>some (.refl _)
 | .u32,.u32=>some (.refl _)
 | .u64,.u64=>some (.refl _)
 | _,_=>none
def teq:(t u:Ty)->Option (TEq t u)
 | .bool,.bool=>some (.refl _)
 | .int k,.int k'=>keq k k'
 | .str,.str=>some (.refl _)
 | .slice t,.slice u=>match teq t u with
  | some (.refl _)=>some (.refl _)
  | none=>none
 | .pair t t',.pair u u'=>match teq t u with
  | some (.refl _)=>match teq t' u' with
   | some (.refl _)=>some (.refl _)
   | none=>none
  | none=>none
 | .one t,.one u=>match teq t u with
  | some (.refl _)=>some (.refl _)
  | none=>none
 | .fn,.fn=>some (.refl _)
 | _,_=>none
def castD (t u:Ty) (a:t.den):Option u.den :=
 match teq t u with
 | some (.refl _)=>some a
 | none=>none
def nthA:AV->Nat->Option AV
 | .cons x _,0=>some x
 | .cons _ l,n+1=>nthA l n
 | _,_=>none
def dropA:AV->Nat->AV
 | l,0=>l
 | .cons _ l,n+1=>dropA l n
 | l,_=>.nil
def takeA:AV->Nat->AV
 | _,0=>.nil
 | .cons x l,n+1=>.cons x (takeA l n)
 | _,_=>.nil
def appA:AV->AV->AV
 | .cons x l,y=>.cons x (appA l y)
 | _,y=>y
def lenA:AV->Nat
 | .cons _ l=>lenA l+1
 | _=>0
def isL:AV->Bool
 | .cons _ l=>isL l
 | .nil=>true
 | _=>false
@[reducible] def dens:List Ty->Type
 | []=>Unit
 | t::l=>t.den×dens l
structure Spec where
 tys:List Ty
 F:dens tys->AV×List Prop
def argAVs:(l:List Ty)->dens l->AV
 | [],_=>.nil
 | t::l,d=>.cons (.dat t d.1) (argAVs l d.2)
inductive PK where
 | d (t:Ty)
 | b (T:TypeId) (t:Ty)
 | br (T Tr:TypeId) (t:Ty)
 | bf (T:TypeId) (f:FuncId)
 | c (f:FuncId) (T:TypeId) (t:Ty)
 | k (f:FuncId)
 | r (Tr:TypeId) (t:Ty)
 | n
@[reducible] def pkD:List PK->List Ty
 | []=>[]
 | .d t::l=>t::pkD l
 | .b _ t::l=>t::pkD l
 | .br _ _ t::l=>.slice t::pkD l
 | .bf _ _::l=>pkD l
 | .c _ _ t::l=>t::pkD l
 | .k _::l=>pkD l
 | .r _ t::l=>.slice t::pkD l
 | .n::l=>pkD l
structure MRes where
 ck:List (Nat×CT)
 nx:Nat
 out:AV
 pre:List Prop
structure MSpec where
 pks:List PK
 F:dens (pkD pks)->MRes
structure Env where
 P:Program
 tys:List (Nat×TE)
 sp:List (Nat×Spec)
 ms:List (Nat×MSpec)
def Env.te (E:Env) (T:TypeId):Option TE:=get? E.tys T
def cAV:Value->AV
 | .int k n=>.dat (.int k) n
 | .bool b=>.lit b
 | .string s=>.dat .str s.data.toList
 | v=>.val v
def lk (sl:List (Nat×AV)):Operand->Option AV
 | .tmp t=>get? sl t
 | .const v=>some (cAV v)
 | .func f=>some (.clo f .nil)
 | _=>none
def asBo:AV->Option Bool
 | .dat .bool b=>some b
 | .lit b=>some b
 | _=>none
def asDats (as1:(t:Ty)->AV->Option t.den):(t:Ty)->AV->Option (t.den×AV)
 | .pair t u,l=>match asDats as1 t l with
  | some (a,r)=>match asDats as1 u r with
   | some (b,r')=>some ((a,b),r')
   | none=>none
  | none=>none
 | .one t,l=>asDats as1 t l
 | .bool,.cons x l=>match as1 .bool x with|some a=>some (a,l)|none=>none
 | .int k,.cons x l=>match as1 (.int k) x with|some a=>some (a,l)|none=>none
 | .str,.cons x l=>match as1 .str x with|some a=>some (a,l)|none=>none
 | .slice t,.cons x l=>match as1 (.slice t) x with|some a=>some (a,l)|none=>none
 | _,_=>none
def as1 (ck:List (Nat×CT)) (u:Ty) (x:AV):Option u.den :=
 match x with
 | .dat t a=>castD t u a
 | .lit b=>castD .bool u b
 | .own c=>match get? ck c with
  | some (.row _ t l)=>castD (.slice t) u l
  | _=>none
 | .sli c _=>match get? ck c with
  | some (.nrow _ o d none)=>match get? ck d with
   | some (.bag _ t ll)=>match o with
    | true=>castD (.slice (.one (.slice t))) u ll
    | false=>castD (.slice (.slice t)) u ll
   | _=>none
  | _=>none
 | .hdr d k=>match get? ck d with
  | some (.bag _ t ll)=>castD (.slice t) u (ll.getD k [])
  | _=>none
 | .val (.slice none 0 0)=>match u with
  | .slice _=>some []
  | _=>none
 | _=>none
def asW (ck:List (Nat×CT)) (u:Ty) (x:AV):Option u.den :=
 match x with
 | .own c=>match get? ck c with
  | some (.row _ t l)=>castD (.slice t) u l
  | _=>none
 | .sli _ _=>none
 | x=>as1 ck u x
def asD (ck:List (Nat×CT)) (u:Ty) (x:AV):Option u.den :=
 match x with
 | .agg l=>match u.isAgg with
  | true=>match asDats (as1 ck) u l with
   | some (a,.nil)=>some a
   | _=>none
  | false=>none
 | x=>as1 ck u x
def asArgs (ck:List (Nat×CT)):(l:List Ty)->List AV->Option (dens l)
 | [],[]=>some ()
 | t::l,x::xs=>match asD ck t x with
  | some a=>match asArgs ck l xs with
   | some b=>some (a,b)
   | none=>none
  | none=>none
 | _,_=>none
def bitsI (op:BinOp) (k:IntKind) (x y:Int):Int :=
 let a:=BitVec.ofInt k.bits x
 let b:=BitVec.ofInt k.bits y
 match op with
 | .and=>k.wrap (a &&& b).toNat
 | .or=>k.wrap (a ||| b).toNat
 | .xor=>k.wrap (a ^^^ b).toNat
 | _=>k.wrap (a &&& ~~~b).toNat
def shlI (k:IntKind) (x y:Int):Int:=k.wrap (x*2 ^ (min y.toNat k.bits))
def shrI (k:IntKind) (x y:Int):Int:=x.fdiv (2 ^ (min y.toNat k.bits))
def strLt (x y:List UInt8):Bool:=Op.bytesLess x y
inductive An where
 | no
 | tr (b:Bool)
 | wr
 | ow
 | dt
 | dy (c:Nat)
 | dr (c:Nat) (T:TypeId) (t:Ty) (l:List t.den)
 | dn
 | ag
 | fz (c:Nat)
 | mx (fl:List (Nat×Nat))
 | ns
def wrI (an:An) (k:IntKind) (n:Int):AV×List Prop :=
 match an with
 | .wr=>(.dat (.int k) (k.wrap n),[])
 | _=>(.dat (.int k) n,[inR k n])
def binI (an:An) (op:BinOp) (k:IntKind) (x y:Int):Option (AV×List Prop) :=
 match op with
 | .add=>some (wrI an k (x+y))
 | .sub=>some (wrI an k (x-y))
 | .mul=>some (wrI an k (x*y))
 | .quo=>some (.dat (.int k) (x.tdiv y),[y≠0,inR k (x.tdiv y)])
 | .rem=>some (.dat (.int k) (x.tmod y),[y≠0,inR k (x.tmod y)])
 | .and=>some (.dat (.int k) (bitsI .and k x y),[])
 | .or=>some (.dat (.int k) (bitsI .or k x y),[])
 | .xor=>some (.dat (.int k) (bitsI .xor k x y),[])
 | .andNot=>some (.dat (.int k) (bitsI .andNot k x y),[])
 | .eql=>some (.dat .bool (decide (x=y)),[])
 | .neq=>some (.dat .bool (decide (x≠y)),[])
 | .lss=>some (.dat .bool (decide (x<y)),[])
 | .leq=>some (.dat .bool (decide (x<=y)),[])
 | .gtr=>some (.dat .bool (decide (y<x)),[])
 | .geq=>some (.dat .bool (decide (y<=x)),[])
 | _=>none
def binS (op:BinOp) (x y:List UInt8):Option (AV×List Prop) :=
 match op with
 | .add=>some (.dat .str (x++y),[x.length+y.length<=9223372036854775807])
 | .eql=>some (.dat .bool (decide (x=y)),[])
 | .neq=>some (.dat .bool (decide (x≠y)),[])
 | .lss=>some (.dat .bool (strLt x y),[])
 | .leq=>some (.dat .bool (strLt x y||decide (x=y)),[])
 | .gtr=>some (.dat .bool (!(strLt x y||decide (x=y))),[])
 | .geq=>some (.dat .bool (!strLt x y),[])
 | _=>none
def binB (op:BinOp) (x y:Bool):Option (AV×List Prop) :=
 match op with
 | .eql=>some (.dat .bool (decide (x=y)),[])
 | .neq=>some (.dat .bool (decide (x≠y)),[])
 | _=>none
def binO (E:Env) (op:BinOp) (T:TypeId) (a b:AV):Option (AV×List Prop) :=
 match asBo a with
 | some x=>match asBo b with
  | some y=>match E.te T with
   | some e=>match e.ty with
    | .bool=>binB op x y
    | _=>none
   | none=>none
  | none=>none
 | none=>none
def binZ (E:Env) (op:BinOp) (T:TypeId) (p:Prop):Option (AV×List Prop) :=
 match op with
 | .eql=>match E.te T with
  | some e=>match e.ty with
   | .slice _=>some (.bic p,[])
   | _=>none
  | none=>none
 | _=>none
def isPtr (P:Program) (T:TypeId):Prop:=∃ e,P.underlying T=some (.pointer e)
@[reducible] def a3T:Ty:=.pair (.int .i64) (.pair (.int .i64) (.int .i64))
def isA3 (P:Program) (T:TypeId):Prop:=∃ e i,P.underlying T=some (.array 3 e)/\P.underlying e=some (.int .i64)/\P.info? e=some i/\i.size=1/\P.eqGuardType P.depth T=false
def eqB:(t:Ty)->t.den->t.den->Bool
 | .bool,x,y=>decide (x=y)
 | .int _,x,y=>decide ((x:Int)=y)
 | .str,x,y=>decide ((x:List UInt8)=y)
 | .pair t u,x,y=>eqB t x.1 y.1&&eqB u x.2 y.2
 | .one t,x,y=>eqB t x y
 | .slice _,_,_=>false
 | .fn,_,_=>false
def eqOk (P:Program) (T:TypeId) (t:Ty):Prop :=
 P.eqGuardType P.depth T=false/\∀ (X:Nat->Prop) (w:World) (cs cs':List Value) (x y:t.den),rep t X w cs x->rep t X w cs' y->(Op.equal T (t.wrap cs) (t.wrap cs')).run P w=.ok (eqB t x y) w
def fldAg (P:Program) (T:TypeId) (f:Nat) (u:Ty):Prop:=∃ fs F,P.underlying T=some (.struct fs)/\fs[f]?=some F/\(P.underlying F.type).map aggD=some u.isAgg
def binP (E:Env) (op:BinOp) (T:TypeId) (t:Ty) (x:t.den) (t':Ty) (y:t'.den):Option (AV×List Prop) :=
 match op with
 | .eql=>match castD t a3T x,castD t' a3T y with
  | some x,some y=>some (.dat .bool (decide ((x.1:Int)=y.1)&&decide ((x.2.1:Int)=y.2.1)&&decide ((x.2.2:Int)=y.2.2)),[isA3 E.P T])
  | _,_=>match castD t' t y,t.isAgg with
   | some y,true=>some (.dat .bool (eqB t x y),[eqOk E.P T t])
   | _,_=>none
 | .neq=>match castD t' t y,t.isAgg with
  | some y,true=>some (.dat .bool (!eqB t x y),[eqOk E.P T t])
  | _,_=>none
 | _=>none
def binA (E:Env) (an:An) (op:BinOp) (T:TypeId) (a b:AV):Option (AV×List Prop) :=
 match a,b with
 | .ref _ _,.val (.pointer none) =>
  match op with
  | .eql=>some (.lit false,[isPtr E.P T])
  | .neq=>some (.lit true,[isPtr E.P T])
  | _=>none
 | .dat (.int k) x,.dat (.int k') y =>
  match op with
  | .shl=>some (.dat (.int k) (shlI k x y),[0<=y])
  | .shr=>some (.dat (.int k) (shrI k x y),[0<=y])
  | _=>match keq k k' with
   | some _=>binI an op k x y
   | none=>none
 | .dat .str x,.dat .str y=>binS op x y
 | .dat (.pair t u) x,.dat (.pair t' u') y=>binP E op T (.pair t u) x (.pair t' u') y
 | .dat (.slice _) l,.val (.slice none a b)=>match Nat.beq a 0,Nat.beq b 0 with
  | true,true=>binZ E op T (l=[])
  | _,_=>none
 | a,b=>binO E op T a b
def unA (an:An) (op:UnOp) (a:AV):Option (AV×List Prop) :=
 match op with
 | .not=>match asBo a with
  | some b=>some (.dat .bool (!b),[])
  | none=>none
 | .neg=>match a with
  | .dat (.int k) x=>some (wrI an k (-x))
  | _=>none
 | _=>none
def strip:AV->AV
 | .imp _ x=>x
 | x=>x
def cond:AV->List Prop
 | .imp c _=>[c]
 | _=>[]
def pickA (c a b:AV):Option (AV×List Prop) :=
 match c with
 | .lit true=>some (a,[])
 | .lit false=>some (b,[])
 | .dat .bool e =>
  match b with
  | .lit false=>match asBo (strip a) with
   | some x=>some (.dat .bool (e&&x),(cond a).map fun p=>e=true->p)
   | none=>none
  | b=>match a with
   | .lit true=>match asBo (strip b) with
    | some x=>some (.dat .bool (e||x),(cond b).map fun p=>e=false->p)
    | none=>none
   | _=>none
 | _=>none
def fstA (u:Ty):(t:Ty)->t.den->Option u.den
 | .pair t1 t2,p=>match castD (.pair t1 t2) u p with
  | some y=>some y
  | none=>fstA u t1 p.1
 | .bool,x=>castD .bool u x
 | .int k,x=>castD (.int k) u x
 | .str,x=>castD .str u x
 | .slice t,x=>castD (.slice t) u x
 | .one t,x=>castD (.one t) u x
 | .fn,x=>castD .fn u x
def loadA (ck:List (Nat×CT)) (e:TE):AV->Option (AV×List Prop)
 | .elt t x=>match castD t e.ty x with
  | some y=>some (.dat e.ty y,[])
  | none=>none
 | .ref c off=>match get? ck c with
  | some (.box _ l) =>
   match e.ty.isAgg with
   | true=>match Nat.ble (off+e.ty.size) (lenA l) with
    | true=>match asDats (as1 []) e.ty (takeA (dropA l off) e.ty.size) with
     | some (d,_)=>some (.dat e.ty d,[])
     | none=>some (.agg (takeA (dropA l off) e.ty.size),[])
    | false=>none
   | false=>match nthA l off with
    | some x=>some (x,[])
    | none=>none
  | _=>none
 | .ix c i sz=>match get? ck c with
  | some (.row _ t l)=>match fstA e.ty t (l.getD i (zd t)) with
   | some y=>match Nat.beq sz t.size with
    | true=>some (.dat e.ty y,[i<l.length])
    | false=>none
   | none=>none
  | some (.nrow _ _ d none)=>match get? ck d with
   | some (.bag _ t ll)=>match e.ty with
    | .slice _=>match Nat.beq sz 1 with
     | true=>some (.hdr d i,[i<ll.length])
     | false=>none
    | _=>none
   | _=>none
  | _=>none
 | .hix d k i sz=>match get? ck d with
  | some (.bag _ t ll)=>match castD t e.ty ((ll.getD k []).getD i (zd t)) with
   | some y=>match Nat.beq sz t.size with
    | true=>some (.dat e.ty y,[i<(ll.getD k []).length])
    | false=>none
   | none=>none
  | _=>none
 | _=>none
def fieldA (e:TE) (f:Nat):AV->Option (AV×List Prop)
 | .elt t x=>match castD t e.ty x with
  | some y=>match fld e.ty e.nf f with
   | some (_,⟨u,g⟩)=>match Nat.ble (f+1) e.nf with
    | true=>some (.elt u (g y),[])
    | false=>none
   | none=>none
  | none=>none
 | .ref c off=>match fld e.ty e.nf f with
  | some (o,_)=>match Nat.ble (f+1) e.nf with
   | true=>some (.ref c (off+o),[])
   | false=>none
  | none=>none
 | .ix c i sz=>match fld e.ty e.nf f with
  | some (o,_)=>match Nat.beq o 0,Nat.ble (f+1) e.nf with
   | true,true=>some (.ix c i sz,[])
   | false,true=>some (.ixf c i sz o,[])
   | _,_=>none
  | none=>none
 | _=>none
def fieldV (E:Env) (T:TypeId) (e:TE) (f:Nat):AV->Option (AV×List Prop)
 | .dat t x=>match castD t e.ty x with
  | some y=>match fld e.ty e.nf f with
   | some (_,⟨u,g⟩)=>match Nat.ble (f+1) e.nf,e.ty.isAgg with
    | true,true=>some (.dat u (g y),[fldAg E.P T f u])
    | _,_=>none
   | none=>none
  | none=>none
 | _=>none
def elemOf (E:Env) (T:TypeId):Option Ty :=
 match E.te T with
 | some e=>match e.ty with
  | .slice t=>match E.te e.elem with
   | some e'=>match teq e'.ty t with
    | some _=>some t
    | none=>none
   | none=>none
  | _=>none
 | none=>none
def indexA (E:Env) (ck:List (Nat×CT)) (T:TypeId) (x i:AV):Option (AV×List Prop) :=
 match i with
 | .dat (.int _) n=>match elemOf E T with
  | some u=>match x with
   | .own c=>match get? ck c with
    | some (.row _ t l)=>match teq t u with
     | some _=>some (.ix c n.toNat t.size,[0<=n/\n<(l.length:Int)])
     | none=>none
    | _=>none
   | .sli c k=>match Nat.beq u.size 1 with
    | true=>some (.ix c n.toNat 1,[0<=n/\n<(k:Int)])
    | false=>none
   | .hdr d k=>match get? ck d with
    | some (.bag _ t ll)=>match teq t u with
     | some _=>some (.hix d k n.toNat t.size,[0<=n/\n<((ll.getD k []).length:Int)])
     | none=>none
    | _=>none
   | x=>match as1 [] (.slice u) x with
    | some l=>some (.elt u (l.getD n.toNat (zd u)),[0<=n/\n<(l.length:Int)])
    | none=>none
  | none=>match x with
   | .ref c off=>match E.te T with
    | some e=>match teq e.ty a3T with
     | some _=>some (.ref c (off+n.toNat),[0<=n/\n<3,isA3 E.P T])
     | none=>none
    | none=>none
   | _=>none
 | _=>none
def strAt (s:List UInt8) (n:Int):Int:=((s.getD n.toNat 0).toNat:Int)
def strIx (E:Env) (T:TypeId) (x i:AV):Option (AV×List Prop) :=
 match x,i,E.te T with
 | .dat .str s,.dat (.int _) n,some e=>match e.ty with
  | .str=>some (.dat (.int .u8) (strAt s n),[0<=n/\n<(s.length:Int)])
  | _=>none
 | _,_,_=>none
def lenAV (E:Env) (ck:List (Nat×CT)) (T:TypeId) (x:AV):Option (AV×List Prop) :=
 match E.te T with
 | some e=>match e.ty with
  | .str=>match x with
   | .dat .str s=>some (.dat (.int .i64) (s.length:Int),[])
   | _=>none
  | .slice t=>match as1 ck (.slice t) x with
   | some l=>some (.dat (.int .i64) (l.length:Int),[])
   | none=>none
  | _=>none
 | none=>none
def optI (look:Operand->Option AV):Option Operand->Option (Option Int)
 | none=>some none
 | some x=>match look x with
  | some (.dat (.int _) n)=>some (some n)
  | _=>none
def cutL {α:Type} (l:List α):Option Int->Option Int->List α
 | none,none=>l
 | some a,none=>l.drop a.toNat
 | none,some b=>l.take b.toNat
 | some a,some b=>(l.take b.toNat).drop a.toNat
def cutP (n:Nat):Option Int->Option Int->Option Int->List Prop
 | none,none,none=>[]
 | some a,none,none=>[0<=a/\a<=(n:Int)]
 | none,some b,none=>[0<=b/\b<=(n:Int)]
 | some a,some b,none=>[0<=a/\a<=b/\b<=(n:Int)]
 | none,some b,some c=>[0<=b/\b<=c/\c<=(n:Int)]
 | some a,some b,some c=>[0<=a/\a<=b/\b<=c/\c<=(n:Int)]
 | _,none,some _=>[False]
def sliceA (E:Env) (look:Operand->Option AV) (T:TypeId) (x:AV) (lo hi mx:Option Operand):Option (AV×List Prop) :=
 match optI look lo,optI look hi,optI look mx with
 | some lo,some hi,some mx=>match x with
  | .dat .str s=>match mx with
   | none=>match E.te T with
    | some e=>match e.ty with
     | .str=>some (.dat .str (cutL s lo hi),cutP s.length lo hi none)
     | _=>none
    | none=>none
   | some _=>none
  | x=>match elemOf E T with
   | some u=>match as1 [] (.slice u) x with
    | some l=>some (.dat (.slice u) (cutL l lo hi),cutP l.length lo hi mx)
    | none=>none
   | none=>none
 | _,_,_=>none
def tailA (E:Env) (look:Operand->Option AV) (ck:List (Nat×CT)) (T:TypeId) (c:Nat) (lo hi mx:Option Operand):Option (AV×List Prop) :=
 match optI look lo,hi,mx with
 | some (some i),none,none=>match elemOf E T with
  | some u=>match get? ck c with
   | some (.row _ t l)=>match teq t u,Nat.beq u.size 1 with
    | some _,true=>some (.tl c i.toNat,[0<=i/\i<=(l.length:Int)])
    | _,_=>none
   | _=>none
  | none=>none
 | _,_,_=>none
def bytesI (s:List UInt8):List Int:=s.map fun b=>(b.toNat:Int)
def strB (l:List Int):List UInt8:=l.map fun n=>UInt8.ofNat n.toNat
def isU8:Ty->Bool
 | .int .u8=>true
 | _=>false
def as1B (ck:List (Nat×CT)) (x:AV):Option (List Int):=as1 ck (.slice (.int .u8)) x
def convA (E:Env) (ck:List (Nat×CT)) (S D:TypeId) (x:AV) (an:An):Option (AV×List Prop) :=
 match x with
 | .dat (.int _) n=>match E.te D with
  | some e=>match e.ty with
   | .int k=>some (wrI an k n)
   | _=>none
  | none=>none
 | .dat .str s=>match E.te S with
  | some es=>match es.ty with
   | .str=>match elemOf E D with
    | some u=>match isU8 u with
     | true=>some (.dat (.slice (.int .u8)) (bytesI s),[])
     | false=>none
    | none=>none
   | _=>none
  | none=>none
 | x=>match elemOf E S with
  | some u=>match isU8 u with
   | true=>match E.te D with
    | some e=>match e.ty with
     | .str=>match as1B ck x with
      | some l=>some (.dat .str (strB l),[])
      | none=>none
     | _=>none
    | none=>none
   | false=>none
  | none=>none
def argsL (look:Operand->Option AV):List Operand->Option (List AV)
 | []=>some []
 | x::l=>match look x,argsL look l with
  | some a,some b=>some (a::b)
  | _,_=>none
def avsL:List AV->AV
 | []=>.nil
 | x::l=>.cons x (avsL l)
def avL:AV->List AV
 | .cons x l=>x::avL l
 | _=>[]
def catL:List AV->List AV->List AV
 | [],k=>k
 | x::l,k=>x::catL l k
def flatT:Ty->Bool
 | .slice _=>false
 | .pair t u=>match flatT t with|true=>flatT u|false=>false
 | .one t=>flatT t
 | _=>true
def flat:AV->Bool
 | .dat t _=>flatT t
 | .lit _|.val _|.any|.nil=>true
 | .tup l=>flat l
 | .cons x l=>match flat x with|true=>flat l|false=>false
 | _=>false
def asP (ck:List (Nat×CT)):(l:List PK)->List AV->Option (dens (pkD l))
 | [],[]=>some ()
 | .d t::l,x::xs=>match asD ck t x with
  | some a=>match asP ck l xs with
   | some b=>some (a,b)
   | none=>none
  | none=>none
 | .k f::l,x::xs=>match x with
  | .clo f' .nil=>match Nat.beq f' f with
   | true=>asP ck l xs
   | false=>none
  | _=>none
 | _,_=>none
def nilL (l:List (Nat×CT)):Bool :=
 match l with
 | []=>true
 | _::_=>false
def callP (E:Env) (ck:List (Nat×CT)) (f:FuncId) (as:List AV):Option (AV×List Prop) :=
 match get? E.ms f with
 | some s=>match asP [] s.pks as with
  | some d=>match nilL (s.F d).ck,Nat.beq (s.F d).nx 0 with
   | true,true=>some ((s.F d).out,(s.F d).pre)
   | _,_=>none
  | none=>match asP ck s.pks as with
   | some d=>match nilL (s.F d).ck,Nat.beq (s.F d).nx 0,flat (s.F d).out with
    | true,true,true=>some ((s.F d).out,(s.F d).pre)
    | _,_,_=>none
   | none=>none
 | none=>none
def callA (E:Env) (look:Operand->Option AV) (ck:List (Nat×CT)) (c:Call):Option (AV×List Prop) :=
 match c.callee with
 | .value (.func f)=>match get? E.sp f with
  | some s=>match argsL look c.args.toList with
   | some as=>match asArgs [] s.tys as with
    | some d=>some (s.F d)
    | none=>match asArgs ck s.tys as with
     | some d=>match flat (s.F d).1 with
      | true=>some (s.F d)
      | false=>none
     | none=>none
   | none=>none
  | none=>match argsL look c.args.toList with
   | some as=>callP E ck f as
   | none=>none
 | .value (.tmp t)=>match look (.tmp t) with
  | some (.clo f l)=>match isL l with
   | true=>match argsL look c.args.toList with
    | some as=>callP E ck f (catL as (avL l))
    | none=>none
   | false=>none
  | _=>none
 | .builtin .len=>match c.args.toList,c.argTypes.toList with
  | [x],[T]=>match look x with
   | some a=>lenAV E ck T a
   | none=>none
  | _,_=>none
 | .builtin .max=>match c.args.toList with
  | [x,y]=>match look x,look y with
   | some (.dat (.int k) a),some (.dat (.int k') b)=>match keq k k' with
    | some _=>some (.dat (.int k) (if b>a then b else a),[])
    | none=>none
   | _,_=>none
  | _=>none
 | .builtin .min=>match c.args.toList with
  | [x,y]=>match look x,look y with
   | some (.dat (.int k) a),some (.dat (.int k') b)=>match keq k k' with
    | some _=>some (.dat (.int k) (if b<a then b else a),[])
    | none=>none
   | _,_=>none
  | _=>none
 | _=>none
def zA:Ty->AV->AV
 | .bool,tl=>.cons (.lit false) tl
 | .int k,tl=>.cons (.dat (.int k) (0:Int)) tl
 | .str,tl=>.cons (.dat .str []) tl
 | .slice _,tl=>.cons (.val (.slice none 0 0)) tl
 | .pair t u,tl=>zA t (zA u tl)
 | .one t,tl=>zA t tl
 | .fn,tl=>.cons (.dat .fn ()) tl
def dA:(t:Ty)->t.den->AV->AV
 | .pair t u,p,tl=>dA t p.1 (dA u p.2 tl)
 | .one t,p,tl=>dA t p tl
 | .bool,b,tl=>.cons (.dat .bool b) tl
 | .int k,n,tl=>.cons (.dat (.int k) n) tl
 | .str,s,tl=>.cons (.dat .str s) tl
 | .slice t,l,tl=>.cons (.dat (.slice t) l) tl
 | .fn,u,tl=>.cons (.dat .fn u) tl
def cellsA (u:Ty) (x:AV) (tl:AV):Option AV :=
 match u.isAgg with
 | true=>match x with
  | .dat t a=>match castD t u a with
   | some b=>some (dA u b tl)
   | none=>none
  | .agg l=>match Nat.beq (lenA l) u.size with
   | true=>match isL l with
    | true=>some (appA l tl)
    | false=>none
   | false=>none
  | _=>none
 | false=>match x with
  | .dat t a=>match castD t u a with
   | some b=>some (.cons (.dat u b) tl)
   | none=>none
  | .lit b=>some (.cons (.lit b) tl)
  | .val (.slice a n c)=>some (.cons (.val (.slice a n c)) tl)
  | .val (.pointer a)=>some (.cons (.val (.pointer a)) tl)
  | .val (.map a)=>some (.cons (.val (.map a)) tl)
  | .own c=>some (.cons (.own c) tl)
  | .ref c o=>some (.cons (.ref c o) tl)
  | .clo f l=>some (.cons (.clo f l) tl)
  | .sli c n=>some (.cons (.sli c n) tl)
  | .hdr d k=>some (.cons (.hdr d k) tl)
  | _=>none
def spliceA (l:AV) (off n:Nat) (cs:AV):AV:=appA (takeA l off) (appA cs (dropA l (off+n)))
def fillA (look:Operand->Option AV) (pl:Nat->Option (Nat×Ty)):List (Nat×Operand)->AV->Option AV
 | [],acc=>some acc
 | (f,x)::l,acc=>match pl f with
  | some (o,u)=>match look x with
   | some a=>match cellsA u a .nil with
    | some cs=>match Nat.ble (o+u.size) (lenA acc) with
     | true=>fillA look pl l (spliceA acc o u.size cs)
     | false=>none
    | none=>none
   | none=>none
  | none=>none
def plA (f:Nat):Option (Nat×Ty) :=
 match Nat.ble (f+1) 3 with
 | true=>some (f,.int .i64)
 | false=>none
def plF (e:TE) (f:Nat):Option (Nat×Ty) :=
 match Nat.ble (f+1) e.nf with
 | true=>match fld e.ty e.nf f with
  | some (o,⟨u,_⟩)=>some (o,u)
  | none=>none
 | false=>none
def plE (u:Ty) (i:Nat):Option (Nat×Ty):=some (i*u.size,u)
def zzA (u:Ty):Nat->AV
 | 0=>.nil
 | n+1=>zA u (zzA u n)
def rowsA (u:Ty):Nat->AV->Option (List u.den)
 | 0,_=>some []
 | n+1,l=>match asDats (as1 []) u l with
  | some (a,r)=>match rowsA u n r with
   | some k=>some (a::k)
   | none=>none
  | none=>none
def litD (E:Env) (look:Operand->Option AV) (T:TypeId) (n:Nat) (ps:List (Nat×Operand)):Option (AV×List Prop) :=
 match elemOf E T with
 | some u=>match E.te T with
  | some e=>match Nat.ble (n*u.size) 16777216,Nat.ble 1 n with
   | true,true=>match fillA look (plE u) ps (zzA u n) with
    | some cs=>match rowsA u n cs with
     | some l=>some (.dat (.slice u) l,[])
     | none=>none
    | none=>none
   | true,false=>match ps with
    | []=>some (.dat (.slice u) [],[])
    | _::_=>none
   | _,_=>none
  | none=>none
 | none=>none
def makeD (E:Env) (T:TypeId) (a b:AV):Option (AV×List Prop) :=
 match a,b with
 | .dat (.int .i64) a,.dat (.int .i64) b=>match elemOf E T with
  | some u=>match E.te T with
   | some e=>match E.te e.elem with
    | some e'=>some (.dat (.slice u) (List.replicate a.toNat (zd u)),[0<=a/\a<=b/\(e'.bytes:Int)*b<=140737488355328])
    | none=>none
   | none=>none
  | none=>none
 | _,_=>none
def aggA (ck:List (Nat×CT)) (u:Ty) (l:AV):AV :=
 match asDats (as1 []) u l with
 | some (a,_)=>.dat u a
 | none=>.agg l
def aggI (an:An) (ck:List (Nat×CT)) (u:Ty) (l:AV):AV :=
 match an with
 | .ag=>.agg l
 | _=>aggA ck u l
def pop (E:Env) (look:Operand->Option AV) (ck:List (Nat×CT)) (op:Op) (an:An):Option (AV×List Prop) :=
 match op with
 | .move x=>match look x with
  | some a=>some (a,[])
  | none=>none
 | .assign x=>match look x with
  | some a=>some (a,[])
  | none=>none
 | .nilCheck x=>match look x with
  | some (.ref c o)=>some (.ref c o,[])
  | _=>none
 | .extract x i=>match look x with
  | some (.tup l)=>match nthA l i with
   | some a=>some (a,[])
   | none=>none
  | _=>none
 | .binOp op T x y _=>match look x,look y with
  | some a,some b=>binA E an op T a b
  | _,_=>none
 | .unOp op _ x=>match look x with
  | some a=>unA an op a
  | none=>none
 | .load T p=>match look p,E.te T with
  | some a,some e=>loadA ck e a
  | _,_=>none
 | .fieldAddr T p f=>match look p,E.te T with
  | some a,some e=>fieldA e f a
  | _,_=>none
 | .field T x f=>match look x,E.te T with
  | some a,some e=>fieldV E T e f a
  | _,_=>none
 | .indexAddr T x i=>match look x,look i with
  | some a,some b=>indexA E ck T a b
  | _,_=>none
 | .index T x i=>match look x,look i with
  | some a,some b=>strIx E T a b
  | _,_=>none
 | .slice T x l h mx=>match look x with
  | some a=>match a with
   | .own c=>tailA E look ck T c l h mx
   | a=>sliceA E look T a l h mx
  | none=>none
 | .convert S D x=>match look x,E.te S with
  | some a,some _=>convA E ck S D a an
  | _,_=>none
 | .call c=>callA E look ck c
 | .build T ps=>match E.te T with
  | some e=>match e.ty.isAgg with
   | true=>match Nat.ble 1 e.nf with
    | true=>match fillA look (plF e) ps.toList (zA e.ty .nil) with
     | some l=>some (aggI an ck e.ty l,[])
     | none=>none
    | false=>match teq e.ty a3T with
     | some _=>match fillA look plA ps.toList (zA e.ty .nil) with
      | some l=>some (aggI an ck e.ty l,[isA3 E.P T])
      | none=>none
     | none=>none
   | false=>none
  | none=>none
 | .buildSlice T n ps=>litD E look T n ps.toList
 | .makeSlice T x y=>match look x,look y with
  | some a,some b=>makeD E T a b
  | _,_=>none
 | .makeFunc fn fst caps=>match fn,fst.toList with
  | .func f,[]=>match argsL look caps.toList with
   | some l=>some (.clo f (avsL l),[])
   | none=>none
  | _,_=>none
 | _=>none
def lkS (sl:List (Nat×AV)):Operand->Option AV
 | .tmp t=>match get? sl t with
  | some x=>some (strip x)
  | none=>none
 | .const v=>some (cAV v)
 | .func f=>some (.clo f .nil)
 | _=>none
def optL:Option Operand->List Operand->List Operand
 | some x,l=>x::l
 | none,l=>l
def partL:List (Nat×Operand)->List Operand
 | []=>[]
 | (_,x)::l=>x::partL l
def opL:Op->List Operand
 | .move x=>[x]
 | .assign x=>[x]
 | .nilCheck x=>[x]
 | .box _ x=>[x]
 | .load _ x=>[x]
 | .unOp _ _ x=>[x]
 | .convert _ _ x=>[x]
 | .fieldAddr _ x _=>[x]
 | .field _ x _=>[x]
 | .extract x _=>[x]
 | .pick c x y=>[c,x,y]
 | .build _ ps=>partL ps.toList
 | .buildSlice _ _ ps=>partL ps.toList
 | .store _ x y=>[x,y]
 | .binOp _ _ x y _=>[x,y]
 | .makeSlice _ x y=>[x,y]
 | .indexAddr _ x y=>[x,y]
 | .index _ x y=>[x,y]
 | .slice _ x l h m=>x::optL l (optL h (optL m []))
 | .call c=>match c.callee with
  | .value (.tmp t)=>.tmp t::c.args.toList
  | _=>c.args.toList
 | .makeFunc _ _ l=>l.toList
 | _=>[]
def stripPs (sl:List (Nat×AV)):List Operand->List Prop
 | []=>[]
 | .tmp t::l=>match get? sl t with
  | some (.imp c _)=>c::stripPs sl l
  | _=>stripPs sl l
 | _::l=>stripPs sl l
def base (E:Env) (sl:List (Nat×AV)) (ck:List (Nat×CT)) (op:Op) (an:An):Option (AV×List Prop) :=
 match op with
 | .pick c x y=>match lk sl c,lk sl x,lk sl y with
  | some c',some x',some y'=>match pickA (strip c') x' y' with
   | some (r,ps)=>some (r,cond c'++ps)
   | none=>none
  | _,_,_=>none
 | op=>match pop E (lkS sl) ck op an with
  | some (r,ps)=>some (r,stripPs sl (opL op)++ps)
  | none=>none
def fin (an:An) (r:AV) (ps:List Prop):Option (AV×List Prop) :=
 match an with
 | .tr b=>match r with
  | .dat .bool e=>some (.lit b,ps++[e=b])
  | _=>none
 | _=>some (r,ps)
def baseF (E:Env) (sl:List (Nat×AV)) (ck:List (Nat×CT)) (op:Op) (an:An):Option (AV×List Prop) :=
 match base E sl ck op an with
 | some (r,ps)=>fin an r ps
 | none=>none
inductive GC where
 | run
 | dead
 | op (c:Prop)
def beqB:Bool->Bool->Bool
 | true,b=>b
 | false,true=>false
 | false,false=>true
def gcase:AV->Bool->Option GC
 | .lit b,want=>match beqB b want with
  | true=>some .run
  | false=>some .dead
 | .dat .bool e,want=>some (.op (e=want))
 | .imp c (.dat .bool e),want=>some (.op (c/\e=want))
 | .imp c (.lit b),want=>match beqB b want with
  | true=>some (.op c)
  | false=>some .dead
 | _,_=>none
def nthO {α:Type}:List α->Nat->Option α
 | [],_=>none
 | x::_,0=>some x
 | _::l,n+1=>nthO l n
def ev1 (E:Env) (sl:List (Nat×AV)) (ck:List (Nat×CT)) (ds:List (Option Nat)) (o:Oper) (an:An):Option (AV×List Prop) :=
 match o.guard with
 | none=>baseF E sl ck o.op an
 | some (g,want)=>match nthO ds g with
  | some (some t)=>match get? sl t with
   | some x=>match gcase x want with
    | some .run=>baseF E sl ck o.op an
    | some .dead=>some (.val undef,[])
    | some (.op G)=>match baseF E sl ck o.op an with
     | some (r,ps)=>some (.imp G r,ps.map fun p=>G->p)
     | none=>none
    | none=>none
   | none=>none
  | _=>none
def put (sl:List (Nat×AV)) (d:Option Nat) (r:AV):List (Nat×AV) :=
 match d with
 | some t=>(t,r)::sl
 | none=>sl
def staleS (c:Nat):List (Nat×AV)->List (Nat×AV)
 | []=>[]
 | (t,x)::l=>(t,staleA c x)::staleS c l
def staleC (c:Nat):List (Nat×CT)->List (Nat×CT)
 | []=>[]
 | (k,.box T l)::r=>(k,.box T (staleA c l))::staleC c r
 | x::r=>x::staleC c r
def allocA (E:Env) (st:St) (T:TypeId) (d:Nat):Option (St×List Prop) :=
 match E.te T with
 | some e=>some (⟨(d,.ref st.nx 0)::st.sl,(st.nx,.box T (zA e.ty .nil))::st.ck,st.nx+1⟩,[])
 | none=>none
def boxA (E:Env) (st:St) (T:TypeId) (a:AV) (d:Nat):Option (St×List Prop) :=
 match E.te T with
 | some e=>match cellsA e.ty a .nil with
  | some l=>some (⟨(d,.ref st.nx 0)::st.sl,(st.nx,.box T l)::st.ck,st.nx+1⟩,[])
  | none=>none
 | none=>none
def makeA (E:Env) (st:St) (T:TypeId) (a b:AV) (d:Nat):Option (St×List Prop) :=
 match a,b with
 | .dat (.int .i64) a,.dat (.int .i64) b=>match elemOf E T with
  | some u=>match E.te T with
   | some e=>match E.te e.elem with
    | some e'=>some (⟨(d,.own st.nx)::st.sl,(st.nx,.row e.elem u (List.replicate a.toNat (zd u)))::st.ck,st.nx+1⟩,[0<=a/\a<=b/\(e'.bytes:Int)*b<=140737488355328])
    | none=>none
   | none=>none
  | none=>none
 | _,_=>none
def litA (E:Env) (st:St) (T:TypeId) (n:Nat) (ps:List (Nat×Operand)) (d:Nat):Option (St×List Prop) :=
 match elemOf E T with
 | some u=>match E.te T with
  | some e=>match Nat.ble (n*u.size) 16777216,Nat.ble 1 n with
   | true,true=>match fillA (lkS st.sl) (plE u) ps (zzA u n) with
    | some cs=>match rowsA u n cs with
     | some l=>some (⟨(d,.own st.nx)::st.sl,(st.nx,.row e.elem u l)::st.ck,st.nx+1⟩,[])
     | none=>none
    | none=>none
   | true,false=>match ps with
    | []=>some (⟨(d,.own st.nx)::st.sl,(st.nx,.row e.elem u [])::st.ck,st.nx+1⟩,[])
    | _::_=>none
   | _,_=>none
  | none=>none
 | none=>none
def nilQ:AV->Bool
 | .val (.slice none 0 0)=>true
 | _=>false
theorem nilQ_nil:nilQ (.val (.slice none 0 0))=true:=rfl
theorem nilQ_own {c:Nat}:nilQ (.own c)=false:=rfl
theorem nilQ_sli {c n:Nat}:nilQ (.sli c n)=false:=rfl
theorem nilQ_dat {t:Ty} {a:t.den}:nilQ (.dat t a)=false:=rfl
theorem nilQ_any:nilQ .any=false:=rfl
theorem nilQ_ok {x:AV} (h:nilQ x=true):x=.val (.slice none 0 0):=by
 unfold nilQ at h
 split at h
 ·rfl
 ·cases h
def appendA (E:Env) (st:St) (T:TypeId) (a b:AV) (d:Nat):Option (St×List Prop) :=
 match elemOf E T with
 | some u=>match E.te T with
  | some e=>match E.te e.elem with
   | some e'=>match Nat.ble 1 e'.bytes with
    | true=>match asW st.ck (.slice u) b with
     | some m=>match nilQ a with
      | true=>some (⟨(d,.own st.nx)::st.sl,(st.nx,.row e.elem u m)::st.ck,st.nx+1⟩,[m.length*e'.bytes<=140737488355328])
      | false=>match a with
       | .own k=>match get? st.ck k with
        | some (.row T' t l)=>match castD (.slice u) (.slice t) m with
         | some m'=>some (⟨(d,.own k)::staleS k st.sl,set1 (staleC k st.ck) k (.row T' t (l++m')),st.nx⟩,[(l.length+m'.length)*e'.bytes<=140737488355328,T'=e.elem])
         | none=>none
        | _=>none
       | _=>none
     | none=>none
    | false=>none
   | none=>none
  | none=>none
 | none=>none
def memN (n:Nat):List Nat->Bool
 | []=>false
 | k::l=>match Nat.beq k n with|true=>true|false=>memN n l
def boxD (ck:List (Nat×CT)) (T:TypeId) (t:Ty) (x:AV):Option (t.den×Nat) :=
 match x with
 | .ref c o=>match Nat.beq o 0 with
  | true=>match get? ck c with
   | some (.box T' l)=>match Nat.beq T' T with
    | true=>match asDats (as1 []) t l with
     | some (a,.nil)=>some (a,c)
     | _=>none
    | false=>none
   | _=>none
  | false=>none
 | _=>none
def boxR (ck:List (Nat×CT)) (T Tr:TypeId) (t:Ty) (x:AV):Option (List t.den×Nat×Nat) :=
 match x with
 | .ref c o=>match Nat.beq o 0 with
  | true=>match get? ck c with
   | some (.box T' l)=>match Nat.beq T' T with
    | true=>match l with
     | .cons (.own r) .nil=>match get? ck r with
      | some (.row T2 t' z)=>match Nat.beq T2 Tr with
       | true=>match castD (.slice t') (.slice t) z with
        | some z'=>some (z',c,r)
        | none=>none
       | false=>none
      | _=>none
     | _=>none
    | false=>none
   | _=>none
  | false=>none
 | _=>none
def boxF (ck:List (Nat×CT)) (T:TypeId) (f:FuncId) (x:AV):Option (Nat×Nat) :=
 match x with
 | .ref c o=>match Nat.beq o 0 with
  | true=>match get? ck c with
   | some (.box T' l)=>match Nat.beq T' T with
    | true=>match l with
     | .cons (.clo f' (.cons (.ref c' o') .nil)) .nil=>match Nat.beq f' f,Nat.beq o' 0 with
      | true,true=>some (c,c')
      | _,_=>none
     | _=>none
    | false=>none
   | _=>none
  | false=>none
 | _=>none
def rowD (ck:List (Nat×CT)) (Tr:TypeId) (t:Ty) (x:AV):Option (List t.den×Nat) :=
 match x with
 | .own r=>match get? ck r with
  | some (.row T2 t' z)=>match Nat.beq T2 Tr with
   | true=>match castD (.slice t') (.slice t) z with
    | some z'=>some (z',r)
    | none=>none
   | false=>none
  | _=>none
 | _=>none
def hdN (n:Nat):List Nat->Bool
 | k::_=>Nat.beq k n
 | []=>false
def asM (ck:List (Nat×CT)):(l:List PK)->List AV->Option (dens (pkD l)×List Nat×List Nat)
 | [],[]=>some ((),[],[])
 | .d t::l,x::xs=>match asD [] t x with
  | some a=>match asM ck l xs with
   | some (b,cs,rs)=>some ((a,b),cs,rs)
   | none=>none
  | none=>none
 | .b T t::l,x::xs=>match boxD ck T t x with
  | some (a,c)=>match asM ck l xs with
   | some (b,cs,rs)=>some ((a,b),c::cs,rs)
   | none=>none
  | none=>none
 | .br T Tr t::l,x::xs=>match boxR ck T Tr t x with
  | some (a,c,r)=>match asM ck l xs with
   | some (b,cs,rs)=>some ((a,b),c::cs,r::rs)
   | none=>none
  | none=>none
 | .bf T f::l,x::xs=>match boxF ck T f x with
  | some (c,c')=>match asM ck l xs with
   | some (b,cs,rs)=>match hdN c' cs with
    | true=>some (b,c::cs,rs)
    | false=>none
   | none=>none
  | none=>none
 | .c f T t::l,x::xs=>match x with
  | .clo f' (.cons y .nil)=>match Nat.beq f' f with
   | true=>match boxD ck T t y with
    | some (a,c)=>match asM ck l xs with
     | some (b,cs,rs)=>some ((a,b),c::cs,rs)
     | none=>none
    | none=>none
   | false=>none
  | _=>none
 | .k f::l,x::xs=>match x with
  | .clo f' .nil=>match Nat.beq f' f with
   | true=>asM ck l xs
   | false=>none
  | _=>none
 | .r Tr t::l,x::xs=>match rowD ck Tr t x with
  | some (a,c)=>match asM ck l xs with
   | some (b,cs,rs)=>some ((a,b),cs,c::rs)
   | none=>none
  | none=>none
 | .n::l,x::xs=>match nilQ x with
  | true=>asM ck l xs
  | false=>none
 | _,_=>none
def catN:List Nat->List Nat->List Nat
 | [],k=>k
 | x::l,k=>x::catN l k
def lenN:List Nat->Nat
 | []=>0
 | _::l=>lenN l+1
def addN (n:Nat):Nat->Nat
 | 0=>n
 | k+1=>addN n k+1
def subN:Nat->Nat->Nat
 | n,0=>n
 | 0,_+1=>0
 | n+1,k+1=>subN n k
def renN (cs:List Nat) (nx:Nat) (c:Nat):Nat :=
 match nthO cs c with
 | some k=>k
 | none=>addN nx (subN c (lenN cs))
def renA (cs:List Nat) (nx:Nat):AV->AV
 | .own c=>.own (renN cs nx c)
 | .ref c o=>.ref (renN cs nx c) o
 | .ix c i sz=>.ix (renN cs nx c) i sz
 | .ixf c i sz o=>.ixf (renN cs nx c) i sz o
 | .sli c n=>.sli (renN cs nx c) n
 | .hdr d k=>.hdr (renN cs nx d) k
 | .hix d k i sz=>.hix (renN cs nx d) k i sz
 | .tl c i=>.tl (renN cs nx c) i
 | .cons x l=>.cons (renA cs nx x) (renA cs nx l)
 | .tup l=>.tup (renA cs nx l)
 | .agg l=>.agg (renA cs nx l)
 | .clo f l=>.clo f (renA cs nx l)
 | .imp p x=>.imp p (renA cs nx x)
 | x=>x
def renC (cs:List Nat) (nx:Nat):List (Nat×CT)->List (Nat×CT)
 | []=>[]
 | (k,.box T l)::r=>(renN cs nx k,.box T (renA cs nx l))::renC cs nx r
 | (k,.row T t l)::r=>(renN cs nx k,.row T t l)::renC cs nx r
 | (k,.nrow T o d hl)::r=>(renN cs nx k,.nrow T o (renN cs nx d) hl)::renC cs nx r
 | (k,.bag T t ll)::r=>(renN cs nx k,.bag T t ll)::renC cs nx r
def nodupN:List Nat->Bool
 | []=>true
 | k::l=>match memN k l with|true=>false|false=>nodupN l
def delL (ck:List (Nat×CT)):List Nat->List (Nat×CT)
 | []=>ck
 | c::cs=>delL (del ck c) cs
def keptB (ck:List (Nat×CT)):Nat->Bool
 | 0=>true
 | n+1=>match get? ck n with
  | some (.box _ _)=>keptB ck n
  | _=>false
def calleeA (look:Operand->Option AV) (c:Call):Option (FuncId×List AV) :=
 match c.callee with
 | .value x=>match x with
  | .func f=>match argsL look c.args.toList with
   | some as=>some (f,as)
   | none=>none
  | .tmp t=>match look (.tmp t) with
   | some (.clo f l)=>match isL l with
    | true=>match argsL look c.args.toList with
     | some as=>some (f,catL as (avL l))
     | none=>none
    | false=>none
   | _=>none
  | _=>none
 | _=>none
def callC (E:Env) (st:St) (c:Call) (d:Option Nat):Option (St×AV×List (Nat×CT)×List Prop) :=
 match calleeA (lkS st.sl) c with
 | some (f,as)=>match get? E.ms f with
  | some s=>match asM st.ck s.pks as with
   | some (x,cs,rs)=>match nodupN (catN cs rs),keptB (s.F x).ck (lenN cs) with
    | true,true=>some (⟨put st.sl d (renA cs st.nx (s.F x).out),renC cs st.nx (s.F x).ck++delL st.ck (catN cs rs),addN st.nx (subN (s.F x).nx (lenN cs))⟩,renA cs st.nx (s.F x).out,renC cs st.nx (s.F x).ck,(s.F x).pre)
    | _,_=>none
   | none=>none
  | none=>none
 | none=>none
def callM (E:Env) (st:St) (c:Call) (d:Option Nat):Option (St×List Prop) :=
 match callC E st c d with
 | some (st',_,_,ps)=>some (st',ps)
 | none=>none
def copyA (E:Env) (st:St) (T:TypeId) (x y:AV) (d:Nat):Option (St×List Prop) :=
 match x with
 | .own k=>match elemOf E T with
  | some u=>match Nat.beq u.size 1 with
   | true=>match asW st.ck (.slice u) y with
    | some m=>match get? st.ck k with
     | some (.row T' t l)=>match castD (.slice u) (.slice t) m with
      | some m'=>some (⟨(d,.dat (.int .i64) (m'.length:Int))::st.sl,set1 st.ck k (.row T' t m'),st.nx⟩,[m'.length=l.length])
      | none=>none
     | _=>none
    | none=>none
   | false=>none
  | none=>none
 | _=>none
def markA (E:Env) (st:St) (S:TypeId) (x:AV) (d:Nat):Option (St×List Prop) :=
 match x with
 | .own c=>match get? st.ck c with
  | some (.row _ t l)=>match elemOf E S with
   | some u=>match isU8 u with
    | true=>some (⟨(d,.dat (.slice t) l)::st.sl,del st.ck c,st.nx⟩,[l.length≠0])
    | false=>none
   | none=>none
  | _=>none
 | _=>none
def evS (E:Env) (st:St) (op:Op) (d:Nat):Option (St×List Prop) :=
 match op with
 | .convert S D x=>match Nat.beq S D with
  | true=>match lkS st.sl x with
   | some a=>markA E st S a d
   | none=>none
  | false=>none
 | .alloc T=>allocA E st T d
 | .box T x=>match lkS st.sl x with
  | some a=>boxA E st T a d
  | none=>none
 | .makeSlice T n m=>match lkS st.sl n,lkS st.sl m with
  | some a,some b=>makeA E st T a b d
  | _,_=>none
 | .buildSlice T n ps=>litA E st T n ps.toList d
 | .call c=>match c.callee with
  | .builtin .append=>match c.args.toList,c.argTypes.toList with
   | [x,y],[T,T']=>match Nat.beq T T' with
    | true=>match lkS st.sl x,lkS st.sl y with
     | some a,some b=>appendA E st T a b d
     | _,_=>none
    | false=>none
   | _,_=>none
  | .builtin .copy=>match c.args.toList,c.argTypes.toList with
   | [x,y],[T,_]=>match lkS st.sl x,lkS st.sl y with
    | some a,some b=>copyA E st T a b d
    | _,_=>none
   | _,_=>none
  | _=>callM E st c (some d)
 | _=>none
def setA (u:Ty) (b:u.den):(t:Ty)->Nat->Nat->t.den->Option t.den
 | .pair t1 t2,k,o,p=>match Nat.beq o k,castD u (.pair t1 t2) b with
  | true,some q=>some q
  | _,_=>match Nat.ble (k+t1.size) o with
   | true=>match setA u b t2 (k+t1.size) o p.2 with
    | some q=>some (p.1,q)
    | none=>none
   | false=>match setA u b t1 k o p.1 with
    | some q=>some (q,p.2)
    | none=>none
 | .bool,k,o,_=>match Nat.beq o k with|true=>castD u .bool b|false=>none
 | .int j,k,o,_=>match Nat.beq o k with|true=>castD u (.int j) b|false=>none
 | .str,k,o,_=>match Nat.beq o k with|true=>castD u .str b|false=>none
 | .slice t,k,o,_=>match Nat.beq o k with|true=>castD u (.slice t) b|false=>none
 | _,_,_,_=>none
def stF (st:St) (e:TE) (c i sz o:Nat) (v:AV):Option (St×List Prop) :=
 match get? st.ck c with
 | some (.row T' t l)=>match asD [] e.ty v with
  | some a=>match setA e.ty a t 0 o (l.getD i (zd t)),Nat.beq sz t.size with
   | some q,true=>some (⟨st.sl,set1 st.ck c (.row T' t (l.set i q)),st.nx⟩,[i<l.length])
   | _,_=>none
  | none=>none
 | _=>none
def evSt (E:Env) (st:St) (T:TypeId) (p v:AV):Option (St×List Prop) :=
 match E.te T with
 | some e=>match p with
  | .ref c off=>match get? st.ck c with
   | some (.box T' l)=>match cellsA e.ty v .nil with
    | some cs=>match Nat.ble (off+e.ty.size) (lenA l) with
     | true=>some (⟨st.sl,set1 st.ck c (.box T' (spliceA l off e.ty.size cs)),st.nx⟩,[])
     | false=>none
    | none=>none
   | _=>none
  | .ix c i sz=>match get? st.ck c with
   | some (.row T' t l)=>match asD [] t v with
    | some a=>match teq e.ty t,Nat.beq sz t.size with
     | some _,true=>some (⟨st.sl,set1 st.ck c (.row T' t (l.set i a)),st.nx⟩,[i<l.length])
     | _,_=>none
    | none=>stF st e c i sz 0 v
   | some (.nrow T1 o d (some i0))=>match Nat.beq sz 1 with
    | true=>match e.ty,v with
     | .slice _,.hdr d' i'=>match Nat.beq d' d with
      | true=>some (⟨st.sl,set1 st.ck c (.nrow T1 o d none),st.nx⟩,[i=i0/\i'=i0])
      | false=>none
     | _,_=>none
    | false=>none
   | _=>none
  | .hix d k i sz=>match get? st.ck d with
   | some (.bag T' t ll)=>match asD [] t v with
    | some a=>match teq e.ty t,Nat.beq sz t.size with
     | some _,true=>some (⟨st.sl,set1 st.ck d (.bag T' t (ll.set k ((ll.getD k []).set i a))),st.nx⟩,[i<(ll.getD k []).length])
     | _,_=>none
    | none=>none
   | _=>none
  | .ixf c i sz o=>stF st e c i sz o v
  | _=>none
 | none=>none
def pureOp:Op->Bool
 | .move _|.assign _|.nilCheck _|.extract _ _|.binOp _ _ _ _ _|.unOp _ _ _|.load _ _|.fieldAddr _ _ _|.field _ _ _|.indexAddr _ _ _|.index _ _ _|.slice _ _ _ _ _|.convert _ _ _|.build _ _|.pick _ _ _|.makeFunc _ _ _=>true
 | .call c=>match c.callee with
  | .builtin .append|.builtin .copy|.builtin .clear=>false
  | _=>true
 | _=>false
def isBS:Op->Bool
 | .buildSlice _ _ _|.makeSlice _ _ _=>true
 | _=>false
def pureA (an:An) (op:Op):Bool :=
 match an with
 | .ow|.ns|.dy _|.dr _ _ _ _|.dn=>false
 | .dt=>match isBS op with
  | true=>true
  | false=>pureOp op
 | _=>pureOp op
def isDy (an:An):Bool :=
 match an with
 | .dy _|.dr _ _ _ _|.dn=>true
 | _=>false
def dy2 (E:Env) (T:TypeId) (a b:AV) (an:An):Option (AV×List Prop) :=
 match elemOf E T with
 | some u=>match E.te T with
  | some e=>match E.te e.elem with
   | some e'=>match Nat.ble 1 e'.bytes with
    | true=>match as1 [] (.slice u) b with
     | some m=>match nilQ a with
      | true=>some (.dat (.slice u) m,[m.length*e'.bytes<=140737488355328])
      | false=>match a with
       | .own c'=>match an with
        | .dr c T' t l=>match Nat.beq c' c with
         | true=>match castD (.slice u) (.slice t) m with
          | some m'=>some (.dat (.slice t) (l++m'),[(l.length+m'.length)*e'.bytes<=140737488355328,T'=e.elem])
          | none=>none
         | false=>none
        | _=>none
       | _=>none
     | none=>none
    | false=>none
   | none=>none
  | none=>none
 | none=>none
def dyA (E:Env) (sl:List (Nat×AV)) (o:Oper) (an:An):Option (AV×List Prop) :=
 match o.guard with
 | some _=>none
 | none=>match o.op with
  | .call c=>match c.callee with
   | .builtin .append=>match c.args.toList,c.argTypes.toList with
    | [x,y],[T,T']=>match Nat.beq T T' with
     | true=>match lkS sl x,lkS sl y with
      | some a,some b=>match dy2 E T a b an with
       | some (r,ps)=>some (r,stripPs sl (opL o.op)++ps)
       | none=>none
      | _,_=>none
     | false=>none
    | _,_=>none
   | _=>none
  | _=>none
def rsA (ck:List (Nat×CT)):List (Nat×An)->List (Nat×An)
 | []=>[]
 | (k,a)::r=>match a with
  | .dy c=>match get? ck c with
   | some (.row T t l)=>(k,.dr c T t l)::rsA ck r
   | _=>(k,.dn)::rsA ck r
  | a=>(k,a)::rsA ck r
def kilC (ck:List (Nat×CT)):List (Nat×An)->List (Nat×CT)
 | []=>ck
 | (_,a)::r=>match a with
  | .dy c=>kilC (del ck c) r
  | _=>kilC ck r
def frzA (c:Nat) (t:Ty) (l:List t.den):AV->AV
 | .own c'=>match Nat.beq c' c with|true=>.dat (.slice t) l|false=>.own c'
 | .ref c' o=>match Nat.beq c' c with|true=>.any|false=>.ref c' o
 | .ix c' i sz=>match Nat.beq c' c with|true=>.any|false=>.ix c' i sz
 | .ixf c' i sz o=>match Nat.beq c' c with|true=>.any|false=>.ixf c' i sz o
 | .hdr d k=>.hdr d k
 | .hix d k i sz=>.hix d k i sz
 | .tl c' i=>match Nat.beq c' c with|true=>.any|false=>.tl c' i
 | .cons x k=>.cons (frzA c t l x) (frzA c t l k)
 | .tup k=>.tup (frzA c t l k)
 | .agg k=>.agg (frzA c t l k)
 | .clo f k=>.clo f (frzA c t l k)
 | .imp p x=>.imp p (frzA c t l x)
 | x=>x
def frzS (c:Nat) (t:Ty) (l:List t.den):List (Nat×AV)->List (Nat×AV)
 | []=>[]
 | (s,x)::r=>(s,frzA c t l x)::frzS c t l r
def frzC (c:Nat) (t:Ty) (l:List t.den):List (Nat×CT)->List (Nat×CT)
 | []=>[]
 | (k,.box T x)::r=>(k,.box T (frzA c t l x))::frzC c t l r
 | (k,.row T u x)::r=>(k,.row T u x)::frzC c t l r
 | (k,.nrow T o d hl)::r=>(k,.nrow T o d hl)::frzC c t l r
 | (k,.bag T u ll)::r=>(k,.bag T u ll)::frzC c t l r
def frzN (c d:Nat) (o:Bool) (t:Ty) (ll:List (List t.den)):AV->AV
 | .sli c' n=>match Nat.beq c' c with
  | true=>match o with
   | true=>.dat (.slice (.one (.slice t))) ll
   | false=>.dat (.slice (.slice t)) ll
  | false=>.sli c' n
 | .hdr d' k=>match Nat.beq d' d with|true=>.dat (.slice t) (ll.getD k [])|false=>.hdr d' k
 | .cons x k=>.cons (frzN c d o t ll x) (frzN c d o t ll k)
 | .tup k=>.tup (frzN c d o t ll k)
 | .agg k=>.agg (frzN c d o t ll k)
 | .clo f k=>.clo f (frzN c d o t ll k)
 | .imp p x=>.imp p (frzN c d o t ll x)
 | x=>x
def frzNS (c d:Nat) (o:Bool) (t:Ty) (ll:List (List t.den)):List (Nat×AV)->List (Nat×AV)
 | []=>[]
 | (s,x)::r=>(s,frzN c d o t ll x)::frzNS c d o t ll r
def frzNC (c d:Nat) (o:Bool) (t:Ty) (ll:List (List t.den)):List (Nat×CT)->List (Nat×CT)
 | []=>[]
 | (k,.box T x)::r=>(k,.box T (frzN c d o t ll x))::frzNC c d o t ll r
 | x::r=>x::frzNC c d o t ll r
def frz (st:St):List Nat->St
 | []=>st
 | c::cs=>match get? st.ck c with
  | some (.row _ t l)=>frz ⟨frzS c t l st.sl,frzC c t l (del st.ck c),st.nx⟩ cs
  | some (.nrow _ o d none)=>match get? st.ck d with
   | some (.bag _ t ll)=>frz ⟨frzNS c d o t ll st.sl,frzNC c d o t ll (delL st.ck [c,d]),st.nx⟩ cs
   | _=>frz st cs
  | _=>frz st cs
def ubA (c d:Nat):AV->AV
 | .sli c' n=>match Nat.beq c' c with|true=>.own c'|false=>.sli c' n
 | .hdr d' k=>match Nat.beq d' d with|true=>.any|false=>.hdr d' k
 | .cons x k=>.cons (ubA c d x) (ubA c d k)
 | .tup k=>.tup (ubA c d k)
 | .agg k=>.agg (ubA c d k)
 | .clo f k=>.clo f (ubA c d k)
 | .imp p x=>.imp p (ubA c d x)
 | x=>x
def ubS (c d:Nat):List (Nat×AV)->List (Nat×AV)
 | []=>[]
 | (s,x)::r=>(s,ubA c d x)::ubS c d r
def ubC (c d:Nat) (ct:CT):List (Nat×CT)->List (Nat×CT)
 | []=>[]
 | (k,.box T x)::r=>(k,.box T (ubA c d x))::ubC c d ct r
 | (k,x)::r=>match Nat.beq k c with
  | true=>(k,ct)::ubC c d ct r
  | false=>match Nat.beq k d with
   | true=>ubC c d ct r
   | false=>(k,x)::ubC c d ct r
def ubg (st:St) (c:Nat):Option St :=
 match get? st.ck c with
 | some (.nrow T false d none)=>match get? st.ck d with
  | some (.bag _ t ll)=>some ⟨ubS c d st.sl,ubC c d (.row T (.slice t) ll) st.ck,st.nx⟩
  | _=>none
 | _=>none
def nrOf:List (Nat×CT)->Nat->Option Nat
 | [],_=>none
 | (c,z)::l,d=>match z with
  | .nrow _ _ d' _=>match Nat.beq d' d with
   | true=>some c
   | false=>nrOf l d
  | _=>nrOf l d
def nappX (E:Env) (st:St) (T:TypeId) (d i:Nat) (b:AV) (dst:Option Nat):Option (St×AV×List Nat×List Prop) :=
 match elemOf E T with
 | some u=>match E.te T with
  | some e=>match E.te e.elem with
   | some e'=>match Nat.ble 1 e'.bytes with
    | true=>match asW st.ck (.slice u) b with
     | some m=>match get? st.ck d with
      | some (.bag T' t ll)=>match castD (.slice u) (.slice t) m with
       | some m'=>match nrOf st.ck d with
        | some c=>match get? st.ck c with
         | some (.nrow T2 o d2 none)=>match Nat.beq d2 d with
          | true=>some (⟨put st.sl dst (.hdr st.nx i),(st.nx,.bag T' t (ll.set i (ll.getD i []++m')))::(c,.nrow T2 o st.nx (some i))::delL st.ck [d,c],st.nx+1⟩,.hdr st.nx i,[st.nx,c],[((ll.getD i []).length+m'.length)*e'.bytes<=140737488355328,T'=e.elem])
          | false=>none
         | _=>none
        | none=>none
       | none=>none
      | _=>none
     | none=>none
    | false=>none
   | none=>none
  | none=>none
 | none=>none
def noutX (E:Env) (st:St) (T:TypeId) (a:AV) (k:Nat) (dst:Option Nat):Option (St×AV×List Nat×List Prop) :=
 match elemOf E T with
 | some u=>match E.te T with
  | some e=>match E.te e.elem with
   | some e'=>match Nat.ble 1 e'.bytes,Nat.beq u.size 1 with
    | true,true=>match get? st.ck k with
     | some (.nrow T2 o2 d2 none)=>match get? st.ck d2 with
      | some (.bag Tb t l2)=>match nilQ a with
       | true=>some (⟨put st.sl dst (.sli st.nx l2.length),(st.nx,.nrow e.elem o2 (st.nx+1) none)::(st.nx+1,.bag Tb t l2)::delL st.ck [k,d2],st.nx+2⟩,.sli st.nx l2.length,[st.nx,st.nx+1],[l2.length*e'.bytes<=140737488355328])
       | false=>match a with
        | .sli c _=>match get? st.ck c with
         | some (.nrow T1 o1 d1 none)=>match get? st.ck d1 with
          | some (.bag Ta t1 l1)=>match castD (.slice (.slice t)) (.slice (.slice t1)) l2 with
           | some l2'=>match Nat.beq c k,Nat.beq d1 d2 with
            | false,false=>some (⟨put st.sl dst (.sli st.nx (l1++l2').length),(st.nx,.nrow T1 o1 (st.nx+1) none)::(st.nx+1,.bag Ta t1 (l1++l2'))::delL st.ck [c,d1,k,d2],st.nx+2⟩,.sli st.nx (l1++l2').length,[st.nx,st.nx+1],[(l1.length+l2'.length)*e'.bytes<=140737488355328,T1=e.elem/\Ta=Tb])
            | _,_=>none
           | none=>none
          | _=>none
         | _=>none
        | _=>none
      | _=>none
     | _=>none
    | _,_=>none
   | none=>none
  | none=>none
 | none=>none
def nlitX (E:Env) (st:St) (T:TypeId) (n:Nat) (ps:List (Nat×Operand)) (dst:Option Nat):Option (St×AV×List Nat×List Prop) :=
 match elemOf E T with
 | some u=>match E.te T with
  | some e=>match Nat.beq n 1,Nat.beq u.size 1 with
   | true,true=>match fillA (lkS st.sl) (plE u) ps (zzA u n) with
    | some (.cons (.own k) .nil)=>match get? st.ck k with
     | some (.row Ti t l)=>some (⟨put st.sl dst (.sli st.nx 1),(st.nx,.nrow e.elem u.isAgg (st.nx+1) none)::(st.nx+1,.bag Ti t [l])::delL st.ck [k],st.nx+2⟩,.sli st.nx 1,[st.nx,st.nx+1],[])
     | _=>none
    | _=>none
   | _,_=>none
  | none=>none
 | none=>none
def nmakeX (E:Env) (st:St) (T:TypeId) (a b:AV) (dst:Option Nat):Option (St×AV×List Nat×List Prop) :=
 match a,b with
 | .dat (.int .i64) a,.dat (.int .i64) b=>match elemOf E T with
  | some (.slice t)=>match E.te T with
   | some e=>match E.te e.elem with
    | some e'=>some (⟨put st.sl dst (.sli st.nx a.toNat),(st.nx,.nrow e.elem false (st.nx+1) none)::(st.nx+1,.bag e'.elem t (List.replicate a.toNat []))::st.ck,st.nx+2⟩,.sli st.nx a.toNat,[st.nx,st.nx+1],[0<=a/\a<=b/\(e'.bytes:Int)*b<=140737488355328])
    | none=>none
   | none=>none
  | _=>none
 | _,_=>none
def nstX (E:Env) (st:St) (T:TypeId) (p v:AV):Option (St×List Nat×List Prop) :=
 match E.te T with
 | some e=>match p,v with
  | .ix c j sz,.own n=>match get? st.ck c,get? st.ck n with
   | some (.nrow T1 o d hl),some (.row Ti t l)=>match get? st.ck d with
    | some (.bag Tb tb ll)=>match castD (.slice t) (.slice tb) l with
     | some l'=>match Nat.beq sz 1,e.ty with
      | true,.slice _=>some (⟨st.sl,(st.nx,.bag Tb tb (ll.set j l'))::(c,.nrow T1 o st.nx none)::delL st.ck [d,c,n],st.nx+1⟩,[st.nx,c],[j<ll.length,Ti=Tb,∀ i,hl=some i->i=j])
      | _,_=>none
     | none=>none
    | _=>none
   | _,_=>none
  | _,_=>none
 | none=>none
def nestX (E:Env) (st:St) (o:Oper):Option (St×AV×List Nat×List Prop) :=
 match o.op with
 | .call c=>match c.callee with
  | .builtin .append=>match c.args.toList,c.argTypes.toList with
   | [x,y],[T,T']=>match Nat.beq T T' with
    | true=>match lkS st.sl x,lkS st.sl y with
     | some a,some b=>match (match a with|.hdr d i=>nappX E st T d i b o.dst|a=>(match b with|.sli k _=>noutX E st T a k o.dst|_=>none)) with
      | some (st',r,tc,ps)=>some (st',r,tc,stripPs st.sl (opL o.op)++ps)
      | none=>none
     | _,_=>none
    | false=>none
   | _,_=>none
  | _=>none
 | .buildSlice T n ps=>match nlitX E st T n ps.toList o.dst with
  | some (st',r,tc,ps')=>some (st',r,tc,stripPs st.sl (opL o.op)++ps')
  | none=>none
 | .makeSlice T n m=>match lkS st.sl n,lkS st.sl m with
  | some a,some b=>match nmakeX E st T a b o.dst with
   | some (st',r,tc,ps)=>some (st',r,tc,stripPs st.sl (opL o.op)++ps)
   | none=>none
  | _,_=>none
 | _=>none
def clearA (E:Env) (st:St) (T:TypeId) (x:AV):Option (St×List Prop) :=
 match x with
 | .tl c i=>match elemOf E T with
  | some u=>match get? st.ck c with
   | some (.row T' t l)=>match teq t u,Nat.beq u.size 1 with
    | some _,true=>some (⟨st.sl,set1 st.ck c (.row T' t (l.take i++List.replicate (l.length-i) (zd t))),st.nx⟩,[i<=l.length])
    | _,_=>none
   | _=>none
  | none=>none
 | _=>none
def evCl (E:Env) (st:St) (c:Call):Option (St×List Prop) :=
 match c.args.toList,c.argTypes.toList with
 | [x],[T]=>match lkS st.sl x with
  | some a=>match clearA E st T a with
   | some (st',ps)=>some (st',ps)
   | none=>none
  | none=>none
 | _,_=>none
def isCl (c:Call):Bool :=
 match c.callee with
 | .builtin .clear=>true
 | _=>false
def evI (E:Env) (st:St) (o:Oper):Option (St×List Prop) :=
 match o.dst with
 | some d=>match evS E st o.op d with
  | some (st',ps)=>some (st',stripPs st.sl (opL o.op)++ps)
  | none=>none
 | none=>match o.op with
  | .store T p v=>match lkS st.sl p,lkS st.sl v with
   | some a,some b=>match evSt E st T a b with
    | some (st',ps)=>some (st',stripPs st.sl [p,v]++ps)
    | none=>match nstX E st T a b with
     | some (st',_,ps)=>some (st',stripPs st.sl [p,v]++ps)
     | none=>none
   | _,_=>none
  | .call c=>match isCl c with
   | true=>match evCl E st c with
    | some (st',ps)=>some (st',stripPs st.sl (opL o.op)++ps)
    | none=>none
   | false=>match callM E st c none with
    | some (st',ps)=>some (st',stripPs st.sl (opL o.op)++ps)
    | none=>none
  | _=>none
def evF (E:Env) (st:St) (o:Oper) (an:An):Option (St×List Prop) :=
 match an with
 | .fz c=>match o.op with
  | .alloc _=>evI E st o
  | _=>match evI E st o with
   | some (st',ps)=>some (frz st' [c],ps)
   | none=>none
 | .ns=>match o.op with
  | .alloc _=>evI E st o
  | _=>match nestX E st o with
   | some (st',_,_,ps)=>some (st',ps)
   | none=>none
 | _=>evI E st o
def evOp (E:Env) (st:St) (ds:List (Option Nat)) (o:Oper) (an:An):Option (St×List Prop) :=
 match pureA an o.op with
 | true=>match ev1 E st.sl st.ck ds o an with
  | some (r,ps)=>some (⟨put st.sl o.dst r,st.ck,st.nx⟩,ps)
  | none=>none
 | false=>match o.guard with
  | some (g,want)=>match nthO ds g with
   | some (some t)=>match get? st.sl t with
    | some x=>match gcase x want with
     | some .run=>evF E st o an
     | some .dead=>some (⟨put st.sl o.dst (.val undef),st.ck,st.nx⟩,[])
     | _=>none
    | none=>none
   | _=>none
  | none=>evF E st o an
def gAn:List (Nat×An)->Nat->An
 | [],_=>.no
 | (k,x)::l,j=>match Nat.beq k j with|true=>x|false=>gAn l j
def anO (an:List (Nat×An)) (o:Oper):An :=
 match o.dst with
 | some d=>gAn an d
 | none=>.no
def evOps (E:Env) (an:List (Nat×An)) (ds:List (Option Nat)):List Oper->St->List Prop->Option (St×List Prop)
 | [],st,ps=>some (st,ps)
 | o::l,st,ps=>match evOp E st ds o (anO an o) with
  | some (st',qs)=>evOps E an ds l st' (ps++qs)
  | none=>none
def isAl (o:Oper):Bool :=
 match o.op with
 | .alloc _=>match o.guard with
  | none=>match o.dst with
   | some _=>true
   | none=>false
  | some _=>false
 | _=>false
def inP (an:List (Nat×An)) (o:Oper):Bool :=
 match pureA (anO an o) o.op with
 | true=>true
 | false=>isDy (anO an o)
def preP (an:List (Nat×An)):List Oper->List Oper
 | []=>[]
 | o::l=>match inP an o with
  | true=>o::preP an l
  | false=>match isAl o with
   | true=>preP an l
   | false=>[]
def preA (an:List (Nat×An)):List Oper->List Oper
 | []=>[]
 | o::l=>match inP an o with
  | true=>preA an l
  | false=>match isAl o with
   | true=>o::preA an l
   | false=>[]
def preT (an:List (Nat×An)):List Oper->List Oper
 | []=>[]
 | o::l=>match inP an o with
  | true=>preT an l
  | false=>match isAl o with
   | true=>preT an l
   | false=>o::l
def evP (E:Env) (sl:List (Nat×AV)) (ck:List (Nat×CT)) (ds:List (Option Nat)) (o:Oper) (an:An):Option (AV×List Prop) :=
 match pureA an o.op with
 | true=>ev1 E sl ck ds o an
 | false=>dyA E sl o an
def evPre (E:Env) (an:List (Nat×An)) (ds:List (Option Nat)):List Oper->St->List Prop->Option (St×List Prop)
 | [],st,ps=>some (st,ps)
 | o::l,st,ps=>match evP E st.sl st.ck ds o (anO an o) with
  | some (r,qs)=>evPre E an ds l ⟨put st.sl o.dst r,st.ck,st.nx⟩ (ps++qs)
  | none=>none
def evDr (E:Env) (an:List (Nat×An)) (ds:List (Option Nat)) (l:List Oper) (st:St):Option (St×List Prop) :=
 match evPre E an ds (preP an l) st [] with
 | some (st',ps)=>evOps E an ds (preA an l++preT an l) st' ps
 | none=>none
def dsts:List Oper->List (Option Nat)
 | []=>[]
 | o::l=>o.dst::dsts l
inductive It where
 | code (c:Code)
 | blk (id:Nat)
 | mark (R:Act->World->Prop)
def popTo (id:Nat):List It->Option (List It)
 | []=>none
 | i::k=>match i with
  | .blk j=>match Nat.beq j id with
   | true=>some k
   | false=>popTo id k
  | _=>popTo id k
def rAn:List (Nat×List (Nat×An))->Nat->List (Nat×An)
 | [],_=>[]
 | (k,x)::l,j=>match Nat.beq k j with|true=>x|false=>rAn l j
def isS:AV->Bool
 | .nil=>false
 | .cons _ _=>false
 | _=>true
def isBag (ck:List (Nat×CT)) (d:Nat):Bool :=
 match get? ck d with
 | some (.bag _ _ _)=>true
 | _=>false
def leA (cf ck:List (Nat×CT)) (n n':Nat):AV->AV->List Prop
 | _,.any=>[]
 | x,.dat t b=>match asD ck t x with
  | some a=>[a=b]
  | none=>[False]
 | .lit b,.lit b'=>[b=b']
 | .dat .bool b,.lit b'=>[b=b']
 | .tup l,.tup l'=>(isL l'=true)::leA cf ck n n' l l'
 | .clo f l,.clo f' l'=>(f=f'/\isL l'=true)::leA cf ck n n' l l'
 | .agg l,.agg l'=>(isL l'=true)::leA cf ck n n' l l'
 | .nil,.nil=>[]
 | .cons x l,.cons y l'=>(isS y=true)::(leA cf ck n n' x y++leA cf ck n n' l l')
 | .own c,.own c'=>[c=c'/\c<n]
 | .val (.slice none 0 0),.own c=>match isBag cf c with
  | false=>[n<=c/\c<n']
  | true=>[False]
 | .ref c o,.ref c' o'=>[c=c'/\o=o'/\c<n]
 | .sli c k,.sli c' k'=>[c=c'/\k=k'/\c<n]
 | .val (.slice none 0 0),.sli c k=>match isBag cf c with
  | false=>[n<=c/\c<n'/\k=0]
  | true=>[False]
 | .hdr d k,.hdr d' k'=>[d=d'/\k=k'/\d<n]
 | .val v,.val v'=>[v=v']
 | _,_=>[False]
def leSl (cf ck:List (Nat×CT)) (n n':Nat) (sl:List (Nat×AV)):List (Nat×AV)->List Prop
 | []=>[]
 | (t,y)::l=>match get? sl t with
  | some x=>(isS y=true)::(leA cf ck n n' x y++leSl cf ck n n' sl l)
  | none=>[False]
def leCk (cf cd ck:List (Nat×CT)) (n n':Nat):List (Nat×CT)->List Prop
 | []=>[]
 | (c,.box T y)::l=>match get? ck c with
  | some (.box T' x)=>(T'=T/\c<n/\isL y=true)::(leA cf cd n n' x y++leCk cf cd ck n n' l)
  | _=>[False]
 | (c,.row T u y)::l=>match get? ck c with
  | some (.row T' t x)=>match castD (.slice t) (.slice u) x with
   | some x'=>(T'=T/\c<n)::(x'=y)::leCk cf cd ck n n' l
   | none=>[False]
  | some _=>[False]
  | none=>(y=[])::(n<=c/\c<n')::leCk cf cd ck n n' l
 | (c,.nrow T o d hl)::l=>match get? ck c with
  | some (.nrow T' o' d' hl')=>(T'=T/\o'=o/\d'=d/\hl'=hl/\c<n/\d<n)::leCk cf cd ck n n' l
  | some _=>[False]
  | none=>(hl=none/\n<=c/\c<n'/\n<=d/\d<n'/\isBag cf c=false/\isBag cf d=true)::leCk cf cd ck n n' l
 | (c,.bag T u y)::l=>match get? ck c with
  | some (.bag T' t x)=>match castD (.slice (.slice t)) (.slice (.slice u)) x with
   | some x'=>(T'=T/\c<n)::(x'=y)::leCk cf cd ck n n' l
   | none=>[False]
  | some _=>[False]
  | none=>(y=[])::(n<=c/\c<n')::leCk cf cd ck n n' l
def AllP:List Prop->Prop
 | []=>True
 | p::l=>p/\AllP l
def minus (ck:List (Nat×CT)) (ck':List (Nat×CT)):List (Nat×CT) :=
 match ck with
 | []=>[]
 | (k,.row T t l)::r=>match get? ck' k with
  | some _=>minus r ck'
  | none=>(k,.row T t l)::minus r ck'
 | (k,.nrow T o d hl)::r=>match get? ck' k with
  | some _=>minus r ck'
  | none=>(k,.nrow T o d hl)::minus r ck'
 | (k,.bag T t ll)::r=>match get? ck' k with
  | some _=>minus r ck'
  | none=>(k,.bag T t ll)::minus r ck'
 | (k,.box _ _)::r=>minus r ck'
def nodupK:List (Nat×CT)->Bool
 | []=>true
 | (k,_)::l=>match get? l k with
  | some _=>false
  | none=>nodupK l
def leS (nb:Nat) (st st':St) (n:Nat):Prop :=
 (nb<=n/\n<=st.nx)/\n<=st'.nx/\nodupK st'.ck=true/\AllP (leSl st'.ck (minus st.ck st'.ck) n st'.nx st.sl st'.sl)/\AllP (leCk st'.ck (minus st.ck st'.ck) st.ck n st'.nx st'.ck)
def resA (E:Env) (st:St):List ResultVar->Option AV
 | []=>some .nil
 | .tmp t::l=>match get? st.sl t,resA E st l with
  | some x,some r=>some (.cons x r)
  | _,_=>none
 | .cell p T::l=>match get? st.sl p,E.te T with
  | some a,some e=>match loadA st.ck e a,resA E st l with
   | some (x,[]),some r=>some (.cons x r)
   | _,_=>none
  | _,_=>none
def tupA:AV->AV
 | .cons x .nil=>x
 | l=>.tup l
def andP:List Prop->Prop->Prop
 | [],q=>q
 | p::l,q=>p/\andP l q
theorem andP_ok {q:Prop}:∀ {l:List Prop},andP l q->AllP l/\q
 | [],h=>⟨trivial,h⟩
 | p::l,h=>⟨⟨h.1,(andP_ok h.2).1⟩,(andP_ok h.2).2⟩
structure Sx where
 E:Env
 N:Nat
 an:List (Nat×List (Nat×An))
 fz:List (Nat×List Nat)
 stop:List Nat
 res:List ResultVar
 out:AV
 nb:Nat
 om:Option (List (Nat×CT)×Nat)
def rFz:List (Nat×List Nat)->Nat->List Nat
 | [],_=>[]
 | (k,x)::l,j=>match Nat.beq k j with|true=>x|false=>rFz l j
def insM (acc:List (Nat×Nat)) (i c:Nat):List (Nat×Nat) :=
 match get? acc i with
 | some _=>acc
 | none=>(i,c)::acc
def mapO:AV->AV->List (Nat×Nat)->List (Nat×Nat)
 | .own c,.own i,acc=>insM acc i c
 | .sli c _,.sli i _,acc=>insM acc i c
 | .ref c _,.ref i _,acc=>insM acc i c
 | .tup l,.tup l',acc=>mapO l l' acc
 | .agg l,.agg l',acc=>mapO l l' acc
 | .cons x l,.cons y l',acc=>mapO l l' (mapO x y acc)
 | _,_,acc=>acc
def exM (ck sp:List (Nat×CT)):List (Nat×Nat)->List (Nat×Nat)->List (Nat×Nat)
 | [],acc=>acc
 | (i,c)::l,acc=>match get? ck c,get? sp i with
  | some (.nrow _ _ d _),some (.nrow _ _ j _)=>exM ck sp l (insM acc j d)
  | some (.box _ x),some (.box _ y)=>exM ck sp l (mapO x y acc)
  | _,_=>exM ck sp l acc
def mapX (ck sp:List (Nat×CT)) (mp:List (Nat×Nat)):List (Nat×Nat):=exM ck sp mp mp
def idM (sp:List (Nat×CT)):Nat->List (Nat×Nat)
 | 0=>[]
 | n+1=>match get? sp n with
  | some (.box _ _)=>(n,n)::idM sp n
  | _=>idM sp n
def invN:List (Nat×Nat)->Nat->Option Nat
 | [],_=>none
 | (i,c)::l,k=>match Nat.beq c k with
  | true=>some i
  | false=>invN l k
def cvA (mp:List (Nat×Nat)):AV->AV
 | .own c=>match invN mp c with|some i=>.own i|none=>.any
 | .ref c o=>match invN mp c with|some i=>.ref i o|none=>.any
 | .ix _ _ _=>.any
 | .ixf _ _ _ _=>.any
 | .sli c n=>match invN mp c with|some i=>.sli i n|none=>.any
 | .hdr d k=>match invN mp d with|some i=>.hdr i k|none=>.any
 | .hix _ _ _ _=>.any
 | .tl _ _=>.any
 | .cons x l=>.cons (cvA mp x) (cvA mp l)
 | .tup l=>.tup (cvA mp l)
 | .agg l=>.agg (cvA mp l)
 | .clo f l=>.clo f (cvA mp l)
 | .imp p x=>.imp p (cvA mp x)
 | x=>x
def nilA (mp:List (Nat×Nat)) (nx:Nat):AV->AV->AV
 | .val (.slice none 0 0),.own i=>match get? mp i with
  | none=>match Nat.ble (i+1) nx with|true=>.own i|false=>.any
  | some _=>.any
 | .tup l,.tup l'=>.tup (nilA mp nx l l')
 | .agg l,.agg l'=>.agg (nilA mp nx l l')
 | .cons x l,.cons y l'=>.cons (nilA mp nx x y) (nilA mp nx l l')
 | x,_=>x
def ckR (mp:List (Nat×Nat)) (nx:Nat) (ck:List (Nat×CT)):List (Nat×CT)->List (Nat×CT)
 | []=>[]
 | (i,s)::l=>match get? mp i with
  | some c=>match get? ck c with
   | some (.box T x)=>(i,.box T (cvA mp x))::ckR mp nx ck l
   | some (.row T t x)=>(i,.row T t x)::ckR mp nx ck l
   | some (.nrow T o d hl)=>match invN mp d with
    | some j=>(i,.nrow T o j hl)::ckR mp nx ck l
    | none=>ckR mp nx ck l
   | some (.bag T t x)=>(i,.bag T t x)::ckR mp nx ck l
   | none=>ckR mp nx ck l
  | none=>match s,Nat.ble (i+1) nx with
   | .row T t _,true=>(i,.row T t [])::ckR mp nx ck l
   | _,_=>ckR mp nx ck l
def renS (mp:List (Nat×Nat)):List (Nat×AV)->List (Nat×AV)
 | []=>[]
 | (t,x)::l=>(t,cvA mp x)::renS mp l
def spR:List (Nat×Nat)->List (Nat×CT)
 | []=>[]
 | (i,_)::l=>(i,.bag 0 .bool [])::spR l
def okM (nx:Nat):List (Nat×Nat)->Bool
 | []=>true
 | (i,c)::l=>match Nat.ble (i+1) nx,get? l i,invN l c with
  | true,none,none=>okM nx l
  | _,_,_=>false
def sameB (ck:List (Nat×CT)) (mp:List (Nat×Nat)):Nat->Bool
 | 0=>true
 | n+1=>match get? mp n with
  | some k=>match Nat.beq k n with
   | true=>sameB ck mp n
   | false=>match get? ck k with
    | some (.box _ _)=>false
    | _=>sameB ck mp n
  | none=>sameB ck mp n
def finR (nb:Nat) (st:St) (r out:AV) (ck:List (Nat×CT)) (nx:Nat) (mp:List (Nat×Nat)):Prop :=
 (okM nx mp=true/\sameB st.ck mp nb=true)/\leS nb ⟨[(0,nilA mp nx (cvA mp r) out)],ckR mp nx st.ck ck,nx⟩ ⟨[(0,out)],ck,nx⟩ nx
def finP (S:Sx) (st:St):Prop :=
 match resA S.E st S.res with
 | some r=>match S.om with
  | none=>AllP (leA [] (minus st.ck []) 0 0 (tupA r) S.out)
  | some (ck,nx)=>finR S.nb st (tupA r) S.out ck nx (mapX st.ck ck (mapO (tupA r) S.out (idM ck S.nb)))
 | none=>False
def keysN:List (Nat×CT)->List Nat
 | []=>[]
 | (k,_)::r=>k::keysN r
def callX (E:Env) (st:St) (c:Call) (d:Option Nat):Option (St×AV×List Nat×List Prop) :=
 match callC E st c d with
 | some (st',r,ck,ps)=>some (st',r,keysN ck,ps)
 | none=>none
def isFz:An->Bool
 | .fz _=>true
 | _=>false
def appX (E:Env) (st:St) (T:TypeId) (a b:AV) (d:Option Nat) (an:An):Option (St×AV×List Nat×List Prop) :=
 match elemOf E T with
 | some u=>match E.te T with
  | some e=>match E.te e.elem with
   | some e'=>match Nat.ble 1 e'.bytes with
    | true=>match asW st.ck (.slice u) b with
     | some m=>match nilQ a with
      | true=>match isFz an with
       | true=>some (⟨put st.sl d (.dat (.slice u) m),st.ck,st.nx⟩,.dat (.slice u) m,[],[m.length*e'.bytes<=140737488355328])
       | false=>some (⟨put st.sl d (.own st.nx),(st.nx,.row e.elem u m)::st.ck,st.nx+1⟩,.own st.nx,[st.nx],[m.length*e'.bytes<=140737488355328])
      | false=>match a with
       | .own k=>match get? st.ck k with
        | some (.row T' t l)=>match castD (.slice u) (.slice t) m with
         | some m'=>match isFz an with
          | true=>some (⟨put st.sl d (.dat (.slice t) (l++m')),del st.ck k,st.nx⟩,.dat (.slice t) (l++m'),[],[(l.length+m'.length)*e'.bytes<=140737488355328,T'=e.elem])
          | false=>some (⟨put st.sl d (.own st.nx),(st.nx,.row T' t (l++m'))::del st.ck k,st.nx+1⟩,.own st.nx,[st.nx],[(l.length+m'.length)*e'.bytes<=140737488355328,T'=e.elem])
         | none=>none
        | _=>none
       | _=>none
     | none=>none
    | false=>none
   | none=>none
  | none=>none
 | none=>none
def litX (E:Env) (st:St) (T:TypeId) (n:Nat) (ps:List (Nat×Operand)) (d:Option Nat):Option (St×AV×List Nat×List Prop) :=
 match elemOf E T with
 | some u=>match E.te T with
  | some e=>match Nat.ble (n*u.size) 16777216,Nat.ble 1 n with
   | true,true=>match fillA (lkS st.sl) (plE u) ps (zzA u n) with
    | some cs=>match rowsA u n cs with
     | some l=>some (⟨put st.sl d (.own st.nx),(st.nx,.row e.elem u l)::st.ck,st.nx+1⟩,.own st.nx,[st.nx],[])
     | none=>none
    | none=>none
   | true,false=>match ps with
    | []=>some (⟨put st.sl d (.own st.nx),(st.nx,.row e.elem u [])::st.ck,st.nx+1⟩,.own st.nx,[st.nx],[])
    | _::_=>none
   | _,_=>none
  | none=>none
 | none=>none
def makeX (E:Env) (st:St) (T:TypeId) (a b:AV) (d:Option Nat):Option (St×AV×List Nat×List Prop) :=
 match a,b with
 | .dat (.int .i64) a,.dat (.int .i64) b=>match elemOf E T with
  | some u=>match E.te T with
   | some e=>match E.te e.elem with
    | some e'=>some (⟨put st.sl d (.own st.nx),(st.nx,.row e.elem u (List.replicate a.toNat (zd u)))::st.ck,st.nx+1⟩,.own st.nx,[st.nx],[0<=a/\a<=b/\(e'.bytes:Int)*b<=140737488355328])
    | none=>none
   | none=>none
  | none=>none
 | _,_=>none
def allocX (E:Env) (st:St) (T:TypeId) (d:Option Nat):Option (St×AV×List Nat×List Prop) :=
 match E.te T with
 | some e=>some (⟨put st.sl d (.ref st.nx 0),(st.nx,.box T (zA e.ty .nil))::st.ck,st.nx+1⟩,.ref st.nx 0,[st.nx],[])
 | none=>none
def storeX (E:Env) (st:St) (T:TypeId) (p v:Operand) (d:Option Nat):Option (St×AV×List Nat×List Prop) :=
 match lkS st.sl p,lkS st.sl v with
 | some a,some b=>match evSt E st T a b with
  | some (st',ps)=>some (⟨put st.sl d (.val undef),st'.ck,st'.nx⟩,.val undef,keysN st.ck,stripPs st.sl [p,v]++ps)
  | none=>match nstX E st T a b with
   | some (st',tc,ps)=>some (⟨put st.sl d (.val undef),st'.ck,st'.nx⟩,.val undef,tc,stripPs st.sl [p,v]++ps)
   | none=>none
 | _,_=>none
def evX0 (E:Env) (st:St) (o:Oper) (an:An):Option (St×AV×List Nat×List Prop) :=
 match o.op with
 | .call c=>match c.callee with
  | .builtin .append=>match c.args.toList,c.argTypes.toList with
   | [x,y],[T,T']=>match Nat.beq T T' with
    | true=>match lkS st.sl x,lkS st.sl y with
     | some a,some b=>match appX E st T a b o.dst an with
      | some (st',r,tc,ps)=>some (st',r,tc,stripPs st.sl (opL o.op)++ps)
      | none=>none
     | _,_=>none
    | false=>none
   | _,_=>none
  | _=>match callX E st c o.dst with
   | some (st',r,tc,ps)=>some (st',r,tc,stripPs st.sl (opL o.op)++ps)
   | none=>none
 | .buildSlice T n ps=>match litX E st T n ps.toList o.dst with
  | some (st',r,tc,qs)=>some (st',r,tc,stripPs st.sl (opL o.op)++qs)
  | none=>none
 | .makeSlice T n m=>match lkS st.sl n,lkS st.sl m with
  | some a,some b=>match makeX E st T a b o.dst with
   | some (st',r,tc,ps)=>some (st',r,tc,stripPs st.sl (opL o.op)++ps)
   | none=>none
  | _,_=>none
 | .alloc T=>allocX E st T o.dst
 | .store T p v=>storeX E st T p v o.dst
 | _=>none
def evX (E:Env) (st:St) (o:Oper) (an:An):Option (St×AV×List Nat×List Prop) :=
 match o.op with
 | .alloc T=>allocX E st T o.dst
 | _=>match an with
  | .ns=>nestX E st o
  | _=>evX0 E st o an
def evG (E:Env) (st:St) (ds:List (Option Nat)) (o:Oper) (an:An):Option (St×AV×List Nat×List Prop) :=
 match o.guard with
 | none=>evX E st o an
 | some (g,want)=>match nthO ds g with
  | some (some t)=>match get? st.sl t with
   | some x=>match gcase x want with
    | some .run=>evX E st o an
    | some .dead=>some (⟨put st.sl o.dst (.val undef),st.ck,st.nx⟩,.val undef,[],[])
    | _=>none
   | none=>none
  | _=>none
def flT:Nat->List (Nat×List Nat)->List Nat
 | _,[]=>[]
 | e0,(e,tc)::r=>match Nat.ble e0 e with
  | true=>appN tc (flT e0 r)
  | false=>flT e0 r
where appN:List Nat->List Nat->List Nat
 | [],k=>k
 | c::l,k=>c::appN l k
def keysR:List (Nat×CT)->List Nat
 | []=>[]
 | (k,c)::r=>match c with
  | .row _ _ _=>k::keysR r
  | .nrow _ _ _ _=>k::keysR r
  | .bag _ _ _=>k::keysR r
  | .box _ _=>keysR r
def exB (fl:List (Nat×Nat)):Nat :=
 match get? fl 5000000 with
 | some c=>c
 | none=>6000000
def flO (ck:List (Nat×CT)) (fl:List (Nat×Nat)) (j:Nat) (tch:List (Nat×List Nat)):List Nat :=
 match get? fl j with
 | some e0=>match Nat.ble 1000000 e0 with
  | true=>match Nat.ble 3000000 e0 with
   | true=>match Nat.ble 4000000 e0 with
    | true=>exB fl::keysR ck
    | false=>keysR ck
   | false=>keysN ck
  | false=>flT e0 tch
 | none=>[]
def boxK (tc:List Nat) (c:Nat):List (Nat×CT)->Bool
 | []=>true
 | (k,x)::r=>match x with
  | .box _ _=>match memN k tc with
   | true=>match Nat.beq k c with
    | true=>boxK tc c r
    | false=>false
   | false=>boxK tc c r
  | _=>boxK tc c r
def okT (c:Nat) (ck:List (Nat×CT)) (tc:List Nat):List (Nat×Nat)->Bool
 | []=>true
 | (_,e0)::r=>match Nat.ble 4000000 e0 with
  | true=>match boxK tc c ck with
   | true=>okT c ck tc r
   | false=>false
  | false=>okT c ck tc r
def callO (o:Oper):Bool :=
 match o.op with
 | .call c=>match c.callee with
  | .builtin _=>false
  | _=>true
 | _=>false
def okTO (fl:List (Nat×Nat)) (ck:List (Nat×CT)) (tc:List Nat) (o:Oper):Bool :=
 match callO o with
 | true=>okT (exB fl) ck tc fl
 | false=>true
def mxRun (E:Env) (an:List (Nat×An)) (fl:List (Nat×Nat)) (ds:List (Option Nat)):Nat->List Oper->St->List (Nat×List Nat)->List Prop->Option (St×List Prop)
 | _,[],st,_,ps=>some (st,ps)
 | j,o::l,st,tch,ps=>match pureA (anO an o) o.op with
  | true=>match ev1 E st.sl (delL st.ck (flO st.ck fl j tch)) ds o (anO an o) with
   | some (r,qs)=>mxRun E an fl ds (j+1) l ⟨put st.sl o.dst r,st.ck,st.nx⟩ tch (ps++qs)
   | none=>none
  | false=>match evG E st ds o (anO an o) with
   | some (st',_,tc,qs)=>match okTO fl st.ck tc o with
    | true=>mxRun E an fl ds (j+1) l st' ((j,tc)::tch) (ps++qs)
    | false=>none
   | none=>none
def mxOf:List (Nat×An)->Option (List (Nat×Nat))
 | []=>none
 | (_,a)::r=>match a with
  | .mx fl=>some fl
  | _=>mxOf r
def handF (fl:List (Nat×Nat)):Bool :=
 match get? fl 9000000 with
 | some _=>true
 | none=>false
def evRe (S:Sx) (draw:Bool) (id:Nat) (l:List Oper) (st:St):Option (St×List Prop) :=
 match draw with
 | true=>match mxOf (rAn S.an id) with
  | some fl=>match handF fl with
   | true=>none
   | false=>mxRun S.E (rAn S.an id) fl (dsts l) 0 l st [] []
  | none=>evDr S.E (rsA st.ck (rAn S.an id)) (dsts l) l ⟨st.sl,kilC st.ck (rAn S.an id),st.nx⟩
 | false=>evOps S.E (rAn S.an id) (dsts l) l st []
def run (S:Sx) (H:List It->St->Prop):Nat->List It->St->Prop
 | 0,k,st=>H k st
 | _+1,[],st=>finP S st
 | n+1,i::k,st=>match i with
  | .blk _=>run S H n k st
  | .mark R=>H (.mark R::k) st
  | .code c=>match c with
   | .skip=>run S H n k st
   | .seq a b=>run S H n (.code a::.code b::k) st
   | .region id l draw=>match memN id S.stop with
    | true=>H (.code (.region id l draw)::k) st
    | false=>match evRe S draw id l.toList (frz st (rFz S.fz id)) with
     | some (st',ps)=>andP ps (run S H n k st')
     | none=>H (.code (.region id l draw)::k) st
   | .cond c x y=>match lk st.sl c with
    | some v=>match v with
     | .lit b=>match b with
      | true=>run S H n (.code x::k) st
      | false=>run S H n (.code y::k) st
     | .dat t e=>match castD t .bool e with
      | some e=>(e=true->run S H n (.code x::k) st)/\(e=false->run S H n (.code y::k) st)
      | none=>H (.code (.cond c x y)::k) st
     | .bic p=>(p->run S H n (.code x::k) st)/\run S H n (.code y::k) st
     | _=>H (.code (.cond c x y)::k) st
    | none=>H (.code (.cond c x y)::k) st
   | .block id c=>run S H n (.code c::.blk id::k) st
   | .exit id=>match popTo id k with
    | some k'=>run S H n k' st
    | none=>False
   | .ret=>finP S st
   | c=>H (.code c::k) st
attribute [go_sem] nrOf nappX noutX nlitX nmakeX nstX nestX evX0 makeX allocX storeX litX copyA markA keysN keysR callX isFz appX evX evG flT flT.appN flO mxOf
attribute [go_sem] renS spR insM mapO exM mapX idM invN cvA nilA ckR okM sameB finR
attribute [go_sem] exB boxK okT callO okTO asP nilL callP ubA ubS ubC ubg rowD tailA clearA evCl isCl boxD boxR boxF hdN catN avsL avL catL calleeA callC asM renN renA renC nodupN delL keptB callM addN subN pureA evI pkD lenN
attribute [go_sem] nilQ_nil nilQ_sli nilQ_own nilQ_dat nilQ_any evF aggI isU8 as1B litD makeD isBS isDy dy2 dyA rsA kilC inP evP evDr handF evRe
section
variable {ck:List (Nat×CT)} {u:Ty}
theorem asW_dat {t:Ty} {a:t.den}:asW ck u (.dat t a)=castD t u a:=rfl
theorem asW_own {c:Nat}:asW ck u (.own c)=match get? ck c with
    | some (.row _ t l)=>castD (.slice t) u l
    | _=>none:=rfl
theorem asW_hdr {d k:Nat}:asW ck u (.hdr d k)=match get? ck d with
    | some (.bag _ t ll)=>castD (.slice t) u (ll.getD k [])
    | _=>none:=rfl
theorem asW_nilv {t:Ty}:asW ck (.slice t) (.val (.slice none 0 0))=some []:=rfl
theorem asW_any:asW ck u .any=none:=rfl
theorem as1_dat {t:Ty} {a:t.den}:as1 ck u (.dat t a)=castD t u a:=rfl
theorem as1_lit {b:Bool}:as1 ck u (.lit b)=castD .bool u b:=rfl
theorem as1_own {c:Nat}:as1 ck u (.own c)=match get? ck c with
    | some (.row _ t l)=>castD (.slice t) u l
    | _=>none:=rfl
theorem as1_sli {c n:Nat}:as1 ck u (.sli c n)=match get? ck c with
    | some (.nrow _ o d none)=>match get? ck d with
     | some (.bag _ t ll)=>match o with
      | true=>castD (.slice (.one (.slice t))) u ll
      | false=>castD (.slice (.slice t)) u ll
     | _=>none
    | _=>none:=rfl
theorem asW_sli {c n:Nat}:asW ck u (.sli c n)=none:=rfl
theorem as1_hdr {d k:Nat}:as1 ck u (.hdr d k)=match get? ck d with
    | some (.bag _ t ll)=>castD (.slice t) u (ll.getD k [])
    | _=>none:=rfl
theorem as1_hix {d k i s:Nat}:as1 ck u (.hix d k i s)=none:=rfl
theorem as1_nilv {t:Ty}:as1 ck (.slice t) (.val (.slice none 0 0))=some []:=rfl
theorem as1_any:as1 ck u .any=none:=rfl
theorem as1_elt {t:Ty} {a:t.den}:as1 ck u (.elt t a)=none:=rfl
theorem as1_ref {c o:Nat}:as1 ck u (.ref c o)=none:=rfl
theorem as1_tup {l:AV}:as1 ck u (.tup l)=none:=rfl
theorem as1_agg {l:AV}:as1 ck u (.agg l)=none:=rfl
theorem as1_clo {f:FuncId} {l:AV}:as1 ck u (.clo f l)=none:=rfl
theorem as1_ix {c i s:Nat}:as1 ck u (.ix c i s)=none:=rfl
theorem as1_ixf {c i s o:Nat}:as1 ck u (.ixf c i s o)=none:=rfl
theorem as1_imp {p:Prop} {x:AV}:as1 ck u (.imp p x)=none:=rfl
theorem as1_ptr {a:Option Addr}:as1 ck u (.val (.pointer a))=none:=rfl
end
attribute [go_sem] as1_ixf as1_sli asW_sli asW_dat asW_own asW_hdr asW_nilv asW_any as1_dat as1_lit as1_own as1_hdr as1_hix as1_nilv as1_any as1_elt as1_ref as1_tup as1_agg as1_clo as1_ix as1_imp as1_ptr
attribute [go_sem] fstA stF setA anO isAl preP preA preT evOp evSt evS allocA boxA makeA litA appendA spliceA plF plE zzA staleC staleS staleA put ev1 nthO gcase beqB baseF fin base stripPs lkS pop aggA cellsA dA zA callA flat flatT argsL convA sliceA cutP cutL
  plA binP a3T optI lenAV strIx indexA elemOf fieldA fieldV loadA pickA cond strip unA binA binZ binO binB binS binI wrI asArgs asD asDats asBo lk cAV Env.te castD teq keq argAVs dsts popTo gAn rAn rFz leA leSl leCk leS minus isBag nodupK isS resA tupA AllP memN finP pureOp opL optL partL
  List.nil_append List.cons_append List.map_cons List.map_nil List.append_nil Prod.eta
  frz frzS frzC frzA frzN frzNS frzNC andP get? del set1 nthA dropA takeA appA lenA isL fld fldP Ty.size Ty.isAgg
section
variable {E:Env} {an:List (Nat×An)} {ds:List (Option Nat)} {l:List Oper} {o:Oper} {st:St} {ps:List Prop} {fl:List (Nat×Nat)} {j:Nat} {tch:List (Nat×List Nat)} {look:Operand->Option AV} {pl:Nat->Option (Nat×Ty)} {u:Ty}
def evOK (E:Env) (an:List (Nat×An)) (ds:List (Option Nat)) (l:List Oper) (ps:List Prop):Option (St×List Prop)->Option (St×List Prop)
 | some (st',qs)=>evOps E an ds l st' (ps++qs)
 | none=>none
theorem evOps_nil:evOps E an ds [] st ps=some (st,ps):=rfl
theorem evOps_cons:evOps E an ds (o::l) st ps=evOK E an ds l ps (evOp E st ds o (anO an o)):=rfl
def evPK (E:Env) (an:List (Nat×An)) (ds:List (Option Nat)) (l:List Oper) (st:St) (d:Option Nat) (ps:List Prop):Option (AV×List Prop)->Option (St×List Prop)
 | some (r,qs)=>evPre E an ds l ⟨put st.sl d r,st.ck,st.nx⟩ (ps++qs)
 | none=>none
theorem evPre_nil:evPre E an ds [] st ps=some (st,ps):=rfl
theorem evPre_cons:evPre E an ds (o::l) st ps=evPK E an ds l st o.dst ps (evP E st.sl st.ck ds o (anO an o)):=rfl
def mxK1 (E:Env) (an:List (Nat×An)) (fl:List (Nat×Nat)) (ds:List (Option Nat)) (j:Nat) (l:List Oper) (st:St) (d:Option Nat) (tch:List (Nat×List Nat)) (ps:List Prop):Option (AV×List Prop)->Option (St×List Prop)
 | some (r,qs)=>mxRun E an fl ds (j+1) l ⟨put st.sl d r,st.ck,st.nx⟩ tch (ps++qs)
 | none=>none
def mxK3 (E:Env) (an:List (Nat×An)) (fl:List (Nat×Nat)) (ds:List (Option Nat)) (j:Nat) (l:List Oper) (tch:List (Nat×List Nat)) (ps:List Prop) (st':St) (tc:List Nat) (qs:List Prop):Bool->Option (St×List Prop)
 | true=>mxRun E an fl ds (j+1) l st' ((j,tc)::tch) (ps++qs)
 | false=>none
def mxK2 (E:Env) (an:List (Nat×An)) (fl:List (Nat×Nat)) (ds:List (Option Nat)) (j:Nat) (l:List Oper) (tch:List (Nat×List Nat)) (ps:List Prop) (ck:List (Nat×CT)) (o:Oper):Option (St×AV×List Nat×List Prop)->Option (St×List Prop)
 | some (st',_,tc,qs)=>mxK3 E an fl ds j l tch ps st' tc qs (okTO fl ck tc o)
 | none=>none
def mxK (E:Env) (an:List (Nat×An)) (fl:List (Nat×Nat)) (ds:List (Option Nat)) (j:Nat) (o:Oper) (l:List Oper) (st:St) (tch:List (Nat×List Nat)) (ps:List Prop):Bool->Option (St×List Prop)
 | true=>mxK1 E an fl ds j l st o.dst tch ps (ev1 E st.sl (delL st.ck (flO st.ck fl j tch)) ds o (anO an o))
 | false=>mxK2 E an fl ds j l tch ps st.ck o (evG E st ds o (anO an o))
theorem mxRun_nil:mxRun E an fl ds j [] st tch ps=some (st,ps):=rfl
theorem mxRun_cons:mxRun E an fl ds j (o::l) st tch ps=mxK E an fl ds j o l st tch ps (pureA (anO an o) o.op):=rfl
def fillK3 (look:Operand->Option AV) (pl:Nat->Option (Nat×Ty)) (l:List (Nat×Operand)) (o n:Nat) (acc cs:AV):Bool->Option AV
 | true=>fillA look pl l (spliceA acc o n cs)
 | false=>none
def fillK2 (look:Operand->Option AV) (pl:Nat->Option (Nat×Ty)) (l:List (Nat×Operand)) (o n:Nat) (acc:AV):Option AV->Option AV
 | some cs=>fillK3 look pl l o n acc cs (Nat.ble (o+n) (lenA acc))
 | none=>none
def fillK1 (look:Operand->Option AV) (pl:Nat->Option (Nat×Ty)) (l:List (Nat×Operand)) (o:Nat) (u:Ty) (acc:AV):Option AV->Option AV
 | some a=>fillK2 look pl l o u.size acc (cellsA u a .nil)
 | none=>none
def fillK (look:Operand->Option AV) (pl:Nat->Option (Nat×Ty)) (l:List (Nat×Operand)) (x:Operand) (acc:AV):Option (Nat×Ty)->Option AV
 | some (o,u)=>fillK1 look pl l o u acc (look x)
 | none=>none
theorem fillA_nil {acc:AV}:fillA look pl [] acc=some acc:=rfl
theorem fillA_cons {f:Nat} {x:Operand} {l:List (Nat×Operand)} {acc:AV}:fillA look pl ((f,x)::l) acc=fillK look pl l x acc (pl f):=rfl
def rowsK2 (a:u.den):Option (List u.den)->Option (List u.den)
 | some k=>some (a::k)
 | none=>none
def rowsK (u:Ty) (n:Nat):Option (u.den×AV)->Option (List u.den)
 | some (a,r)=>rowsK2 a (rowsA u n r)
 | none=>none
theorem rowsA_zero {x:AV}:rowsA u 0 x=some []:=rfl
theorem rowsA_succ {n:Nat} {x:AV}:rowsA u (n+1) x=rowsK u n (asDats (as1 []) u x):=rfl
theorem rowsA_1 {x:AV}:rowsA u 1 x=rowsK u 0 (asDats (as1 []) u x):=rfl
variable {S:Sx} {H:List It->St->Prop} {n:Nat} {k:List It} {R:Act->World->Prop} {a b:Code}
def runR2 (S:Sx) (H:List It->St->Prop) (n:Nat) (k:List It) (id:Nat) (l:Array Oper) (draw:Bool) (st:St):Option (St×List Prop)->Prop
 | some (st',ps)=>andP ps (run S H n k st')
 | none=>H (.code (.region id l draw)::k) st
def runR (S:Sx) (H:List It->St->Prop) (n:Nat) (k:List It) (id:Nat) (l:Array Oper) (draw:Bool) (st:St):Bool->Prop
 | true=>H (.code (.region id l draw)::k) st
 | false=>runR2 S H n k id l draw st (evRe S draw id l.toList (frz st (rFz S.fz id)))
def runC3 (S:Sx) (H:List It->St->Prop) (n:Nat) (k:List It) (c:Operand) (x y:Code) (st:St):Option Bool->Prop
 | some e=>(e=true->run S H n (.code x::k) st)/\(e=false->run S H n (.code y::k) st)
 | none=>H (.code (.cond c x y)::k) st
def runC2 (S:Sx) (H:List It->St->Prop) (n:Nat) (k:List It) (x y:Code) (st:St):Bool->Prop
 | true=>run S H n (.code x::k) st
 | false=>run S H n (.code y::k) st
def runC (S:Sx) (H:List It->St->Prop) (n:Nat) (k:List It) (c:Operand) (x y:Code) (st:St):Option AV->Prop
 | some v=>match v with
  | .lit b=>runC2 S H n k x y st b
  | .dat t e=>runC3 S H n k c x y st (castD t .bool e)
  | .bic p=>(p->run S H n (.code x::k) st)/\run S H n (.code y::k) st
  | _=>H (.code (.cond c x y)::k) st
 | none=>H (.code (.cond c x y)::k) st
def runX (S:Sx) (H:List It->St->Prop) (n:Nat) (st:St):Option (List It)->Prop
 | some k'=>run S H n k' st
 | none=>False
theorem run_nil:run S H (n+1) [] st=finP S st:=rfl
theorem run_blk {id:Nat}:run S H (n+1) (.blk id::k) st=run S H n k st:=rfl
theorem run_mark:run S H (n+1) (.mark R::k) st=H (.mark R::k) st:=rfl
theorem run_skip:run S H (n+1) (.code .skip::k) st=run S H n k st:=rfl
theorem run_seq:run S H (n+1) (.code (.seq a b)::k) st=run S H n (.code a::.code b::k) st:=rfl
theorem run_region {id:Nat} {l:Array Oper} {draw:Bool}:run S H (n+1) (.code (.region id l draw)::k) st=runR S H n k id l draw st (memN id S.stop):=rfl
theorem run_cond {c:Operand} {x y:Code}:run S H (n+1) (.code (.cond c x y)::k) st=runC S H n k c x y st (lk st.sl c):=rfl
theorem run_block {id:Nat}:run S H (n+1) (.code (.block id a)::k) st=run S H n (.code a::.blk id::k) st:=rfl
theorem run_exit {id:Nat}:run S H (n+1) (.code (.exit id)::k) st=runX S H n st (popTo id k):=rfl
theorem run_ret:run S H (n+1) (.code .ret::k) st=finP S st:=rfl
theorem run_loop:run S H (n+1) (.code (.loop a)::k) st=H (.code (.loop a)::k) st:=rfl
end
attribute [go_sem] evOK evOps_nil evOps_cons evPK evPre_nil evPre_cons mxK1 mxK2 mxK3 mxK mxRun_nil mxRun_cons fillK3 fillK2 fillK1 fillK fillA_nil fillA_cons rowsK2 rowsK rowsA_zero rowsA_succ rowsA_1
attribute [go_sem] runR2 runR runC3 runC2 runC runX run_nil run_blk run_mark run_skip run_seq run_region run_cond run_block run_exit run_ret run_loop
end Go.Proofs.Ytbokoblnehgkaaa.Gx
namespace Go.Proofs.Ytbokoblnehgkaaa.Gx
open Go Go.RowKit Tw
set_option linter.unusedVariables false
theorem AllP.app:∀ {l k:List Prop},AllP (l++k)->AllP l/\AllP k
 | [],k,h=>⟨trivial,h⟩
 | p::l,k,h=>⟨⟨h.1,(AllP.app (l:=l) h.2).1⟩,(AllP.app (l:=l) h.2).2⟩
theorem AllP.under {G:Prop} (hG:G):∀ {l:List Prop},AllP (l.map fun p=>G->p)->AllP l
 | [],_=>trivial
 | p::l,h=>⟨h.1 hG,AllP.under (l:=l) hG h.2⟩
section
variable {ρ:List Value} {X:Nat->Prop} {w:World}
theorem m_nth:∀ {l:AV} {n:Nat} {x:AV} {vs:List Value},nthA l n=some x->m ρ X w l vs->∃ v,vs[n]?=some v/\m ρ X w x [v]
 | .cons y l,0,x,vs,h,hm=>by
  obtain ⟨v,us,rfl,h1,h2⟩:=hm
  cases h; exact ⟨v,rfl,h1⟩
 | .cons y l,n+1,x,vs,h,hm=>by
  obtain ⟨v,us,rfl,h1,h2⟩:=hm
  exact m_nth (l:=l) (n:=n) (by simpa only [nthA] using h) h2
theorem m_len:∀ {l:AV} {vs:List Value},isL l=true->m ρ X w l vs->vs.length=lenA l
 | .nil,vs,_,h=>by rw [show vs=[] from h]; rfl
 | .cons x l,vs,hl,h=>by
  obtain ⟨v,us,rfl,_,h2⟩:=h
  simp [lenA,m_len (l:=l) hl h2]
theorem m_take:∀ {l:AV} {n:Nat} {vs:List Value},isL l=true->n<=lenA l->m ρ X w l vs->m ρ X w (takeA l n) (vs.take n)
 | l,0,vs,_,_,h=>by unfold takeA; rw [List.take_zero]; rfl
 | .cons x l,n+1,vs,hl,hn,h=>by
  obtain ⟨v,us,rfl,h1,h2⟩:=h
  simp only [lenA] at hn
  exact ⟨v,us.take n,rfl,h1,m_take (l:=l) hl (by omega) h2⟩
 | .nil,n+1,vs,_,hn,h=>by simp [lenA] at hn
theorem m_drop:∀ {l:AV} {n:Nat} {vs:List Value},isL l=true->n<=lenA l->m ρ X w l vs->m ρ X w (dropA l n) (vs.drop n)
 | l,0,vs,_,_,h=>by unfold dropA; rw [List.drop_zero]; exact h
 | .cons x l,n+1,vs,hl,hn,h=>by
  obtain ⟨v,us,rfl,h1,h2⟩:=h
  simp only [lenA] at hn
  exact m_drop (l:=l) hl (by omega) h2
 | .nil,n+1,vs,_,hn,h=>by simp [lenA] at hn
theorem m_app:∀ {l k:AV} {vs us:List Value},isL l=true->m ρ X w l vs->m ρ X w k us->m ρ X w (appA l k) (vs++us)
 | .nil,k,vs,us,_,h,h'=>by rw [show vs=[] from h]; exact h'
 | .cons x l,k,vs,us,hl,h,h'=>by
  obtain ⟨v,us',rfl,h1,h2⟩:=h
  exact ⟨v,us'++us,rfl,h1,m_app (l:=l) hl h2 h'⟩
theorem isL_take:∀ {l:AV} {n:Nat},isL (takeA l n)=true
 | l,0=>by unfold takeA; rfl
 | .cons x l,n+1=>by unfold takeA; exact isL_take (l:=l)
 | .nil,n+1=>rfl
 | .any,n+1=>rfl
 | .val _,n+1=>rfl
 | .lit _,n+1=>rfl
 | .dat _ _,n+1=>rfl
 | .elt _ _,n+1=>rfl
 | .own _,n+1=>rfl
 | .ref _ _,n+1=>rfl
 | .ix _ _ _,n+1=>rfl
 | .ixf _ _ _ _,n+1=>rfl
 | .sli _ _,n+1=>rfl
 | .hdr _ _,n+1=>rfl
 | .hix _ _ _ _,n+1=>rfl
 | .tl _ _,n+1=>rfl
 | .bic _,n+1=>rfl
 | .tup _,n+1=>rfl
 | .agg _,n+1=>rfl
 | .clo _ _,n+1=>rfl
 | .imp _ _,n+1=>rfl
theorem isL_drop:∀ {l:AV} {n:Nat},isL l=true->isL (dropA l n)=true
 | l,0,h=>by unfold dropA; exact h
 | .cons x l,n+1,h=>isL_drop (l:=l) h
 | .nil,n+1,_=>rfl
theorem isL_app:∀ {l k:AV},isL l=true->isL k=true->isL (appA l k)=true
 | .nil,k,_,h=>h
 | .cons x l,k,hl,h=>isL_app (l:=l) hl h
theorem castD_elim {t u:Ty} {a:t.den} {b:u.den} (h:castD t u a=some b) (M:(v:Ty)->v.den->Prop) (hm:M t a):M u b:=by
 unfold castD at h
 generalize teq t u=q at h
 cases q with
 | none=>cases h
 | some e=>cases e; cases h; exact hm
theorem castD_ty {t u:Ty} {a:t.den} {b:u.den} (h:castD t u a=some b):t=u:=by
 unfold castD at h
 generalize teq t u=q at h
 cases q with
 | none=>cases h
 | some e=>cases e; rfl
theorem castD_self {t:Ty} {a b:t.den} (h:castD t t a=some b):a=b:=eq_of_heq (castD_elim h (fun v b=>HEq a b) HEq.rfl)
theorem teq_ty {t u:Ty} {e:TEq t u} (h:teq t u=some e):t=u:=by cases e; rfl
theorem keq_ty {k k':IntKind} {e:TEq (.int k) (.int k')} (h:keq k k'=some e):k=k':=by cases e; rfl
theorem size1 {t:Ty} (h:t.isAgg=false):t.size=1:=by cases t<;>simp_all [Ty.isAgg,Ty.size]
theorem rep_of_dat {t:Ty} {a:t.den} {v:Value} (h:t.isAgg=false) (hm:m ρ X w (.dat t a) [v]):rep t X w [v] a:=by
 obtain ⟨cs,h1,h2⟩:=hm
 have hl:=rep_len h1
 rw [size1 h] at hl
 match cs,hl with
 | [c],_ =>
  have:v=c:=by have:=(List.cons.inj h2).1; simpa [Ty.wrap,h] using this
  rw [this]; exact h1
theorem dat_of_rep {t:Ty} {a:t.den} {v:Value} (h:t.isAgg=false) (hm:rep t X w [v] a):m ρ X w (.dat t a) [v] :=
 ⟨[v],hm,by simp [Ty.wrap,h]⟩
end
def blkO (ρ:List Value) (c:Nat):Option Nat:=(ρ[c]?).bind blk
def inV:Value->Nat->Prop
 | .tuple us,b=>∃ u∈us.toList,blk u=some b
 | v,b=>blk v=some b
def inO:Option Value->Nat->Prop
 | some v,b=>inV v b
 | none,_=>False
def inC (ρ:List Value) (c b:Nat):Prop:=inO ρ[c]? b
theorem inV_blk {v:Value} {b:Nat} (h:blk v=some b):inV v b:=by
 cases v<;>first|exact h|cases h
theorem blkO_in {ρ:List Value} {c b:Nat} (h:blkO ρ c=some b):inC ρ c b:=by
 unfold blkO at h
 unfold inC
 cases hc:ρ[c]? with
 | none=>rw [hc] at h; cases h
 | some v=>rw [hc] at h; exact inV_blk h
def Rw (B:Nat) (X:Nat->Prop) (w:World) (T:TypeId) (t:Ty) (v:Value) (l:List t.den):Prop :=
 ∃ xs,w.ownsRow B T t.size v l.length xs/\(∀ u∈xs,u.oneCell'=true)/\∀ i x,l[i]?=some x->rep t X w ((xs.drop (i*t.size)).take t.size) x
def cm (B:Nat) (ρ:List Value) (X:Nat->Prop) (w:World) (c:Nat):CT->Prop
 | .box T l=>isL l=true/\∃ b cs,ρ[c]?=some (.pointer (some ⟨b,0,none⟩))/\w.heap[b]?=some (.cells cs T (0,0))/\m ρ X w l cs.toList/\∀ u∈cs.toList,u.oneCell'=true
 | .row T t l=>∃ v xs,ρ[c]?=some v/\w.ownsRow B T t.size v l.length xs/\(∀ u∈xs,u.oneCell'=true)/\∀ i x,l[i]?=some x->rep t X w ((xs.drop (i*t.size)).take t.size) x
 | .nrow T o d hl=>∃ v xs us,ρ[c]?=some v/\ρ[d]?=some (.tuple us)/\w.ownsRow B T 1 v us.toList.length xs/\(∀ u∈xs,u.oneCell'=true)/\∀ j,j<us.toList.length->hl≠some j->xs[j]?=us.toList[j]?
 | .bag T t ll=>∃ us,ρ[c]?=some (.tuple us)/\us.toList.length=ll.length/\(∀ (i:Nat) (h:Value) (l:List t.den),us.toList[i]?=some h->ll[i]?=some l->Rw B X w T t h l) /\
     ∀ (i j:Nat) (h h':Value),us.toList[i]?=some h->us.toList[j]?=some h'->i≠j->∀ b,blk h=some b->blk h'≠some b
structure Wd (B:Nat) (ρ:List Value) (X:Nat->Prop) (ck:List (Nat×CT)) (w:World):Prop where
 lt:∀ b,X b->b<w.heap.size
 cs:∀ x∈ck,cm B ρ X w x.1 x.2
theorem Wd.none {B:Nat} {ρ:List Value} {X:Nat->Prop} {w:World} {ck:List (Nat×CT)} (h:Wd B ρ X ck w):Wd B ρ X [] w:=⟨h.lt,fun x h=>by cases h⟩
section
variable {B:Nat} {ρ:List Value} {X Y:Nat->Prop} {w:World} {ck:List (Nat×CT)}
theorem blkO_of {c:Nat} {v:Value} (h:ρ[c]?=some v):blkO ρ c=blk v:=by simp [blkO,h]
theorem inC_of {c:Nat} {v:Value} (h:ρ[c]?=some v):inC ρ c=inV v:=by unfold inC; rw [h]; rfl
theorem inC_blk {c b:Nat} {v:Value} (h:ρ[c]?=some v) (hb:blk v=some b):inC ρ c b:=by rw [inC_of h]; exact inV_blk hb
theorem inC_none {c b:Nat} (h:ρ.length<=c):¬inC ρ c b:=by unfold inC; rw [List.getElem?_eq_none h]; exact fun h=>h
theorem own_inV {B:Nat} {T:TypeId} {s n:Nat} {v:Value} {xs:List Value} {b:Nat} (h:w.ownsRow B T s v n xs) (hb:inV v b):blk v=some b:=by
 rcases h.2 with ⟨e,_⟩|⟨_,_,_,e,_⟩<;>(rw [e] at hb ⊢; exact hb)
theorem rw_dat {T:TypeId} {t:Ty} {l:List t.den} {v:Value} (h:Rw B X w T t v l) (hY:∀ b,Y b->X b) (hc:∀ b,blk v=some b->¬Y b):m ρ Y w (.dat (.slice t) l) [v]:=by
 obtain ⟨xs,h1,h2,h3⟩:=h
 obtain ⟨h4,⟨h5,h5'⟩|⟨g,cap,cur,h6,_,h7,h8,h9,h10,h11⟩⟩:=h1
 ·have:l=[]:=List.eq_nil_of_length_eq_zero h5'
  subst this
  rw [h5]
  exact ⟨[.slice none 0 0],rep_zero Y w (.slice t),rfl⟩
 ·rw [h6]
  refine ⟨[.slice (some ⟨g,0,none⟩) l.length cap],⟨_,cap,rfl,h8,h9,by simp,fun _=>⟨g,0,cur,T,_,rfl,hc g (by rw [h6]; rfl),h7,fun i x hx=>?_⟩⟩,rfl⟩
  have hr:=rep_anti (h3 i x hx) (Y:=Y) fun b hb=>.inl (hY b hb)
  have hi:i<l.length:=by
   rcases Nat.lt_or_ge i l.length with h|h
   ·exact h
   ·rw [List.getElem?_eq_none h] at hx; cases hx
  have hfit:i*t.size+t.size<=l.length*t.size:=by
   rw [<-Nat.succ_mul]; exact Nat.mul_le_mul_right _ hi
  rw [Nat.zero_add]
  have hcs:(cur.toList.drop (i*t.size)).take t.size=(xs.drop (i*t.size)).take t.size:=by
   rw [<-h11,List.drop_take,List.take_take,Nat.min_eq_left (by omega)]
  rw [hcs]; exact hr
theorem row_dat {c:Nat} {T:TypeId} {t:Ty} {l:List t.den} {v:Value} (h:cm B ρ X w c (.row T t l)) (hY:∀ b,Y b->X b) (hc:∀ b,inC ρ c b->¬Y b) (hv:ρ[c]?=some v):m ρ Y w (.dat (.slice t) l) [v]:=by
 obtain ⟨v',xs,h0,h1,h2,h3⟩:=h
 rw [hv] at h0
 cases h0
 exact rw_dat ⟨xs,h1,h2,h3⟩ hY fun b hb=>hc b (inC_blk hv hb)
theorem inC_tup {d k b:Nat} {us:Array Value} {h:Value} (hd:ρ[d]?=some (.tuple us)) (hk:us.toList[k]?=some h) (hb:blk h=some b):inC ρ d b:=by
 rw [inC_of hd]; exact ⟨h,List.mem_of_getElem? hk,hb⟩
theorem hdr_dat {d k:Nat} {T:TypeId} {t:Ty} {ll:List (List t.den)} {us:Array Value} {v:Value} (h:cm B ρ X w d (.bag T t ll)) (hY:∀ b,Y b->X b) (hc:∀ b,inC ρ d b->¬Y b) (hd:ρ[d]?=some (.tuple us)) (hk:us.toList[k]?=some v) :
    k<ll.length/\m ρ Y w (.dat (.slice t) (ll.getD k [])) [v]:=by
 obtain ⟨us',h1,h2,h3,h4⟩:=h
 rw [hd] at h1
 cases h1
 have hkl:k<ll.length:=by
  rw [<-h2]
  rcases Nat.lt_or_ge k us.toList.length with h|h
  ·exact h
  ·rw [List.getElem?_eq_none h] at hk; cases hk
 refine ⟨hkl,?_⟩
 have hl:ll[k]?=some (ll.getD k []):=by rw [List.getD_eq_getElem?_getD,List.getElem?_eq_getElem hkl]; rfl
 exact rw_dat (h3 k v _ hk hl) hY fun b hb=>hc b (inC_tup hd hk hb)
theorem nest_dat {c d:Nat} {T T':TypeId} {o:Bool} {t:Ty} {ll:List (List t.den)} {v:Value} (h:cm B ρ X w c (.nrow T o d none)) (h':cm B ρ X w d (.bag T' t ll)) (hY:∀ b,Y b->X b) (hc:∀ b,inC ρ c b->¬Y b) (hc':∀ b,inC ρ d b->¬Y b) (hv:ρ[c]?=some v) :
    m ρ Y w (.dat (.slice (.slice t)) ll) [v]/\m ρ Y w (.dat (.slice (.one (.slice t))) ll) [v]:=by
 obtain ⟨v',xs,us,g1,g2,g3,g4,g5⟩:=h
 rw [hv] at g1
 cases g1
 have hlen:us.toList.length=ll.length:=by
  obtain ⟨us',k1,k2,_⟩:=h'
  rw [g2] at k1
  cases k1
  exact k2
 have hel:∀ (i:Nat) (x:List t.den),ll[i]?=some x->∃ h,xs[i]?=some h/\rep (.slice t) Y w [h] x:=by
  intro i x hx
  have hi:i<ll.length:=by
   rcases Nat.lt_or_ge i ll.length with h|h
   ·exact h
   ·rw [List.getElem?_eq_none h] at hx; cases hx
  have hu:=List.getElem?_eq_getElem (show i<us.toList.length by omega)
  refine ⟨us.toList[i],by rw [g5 i (by omega) (by simp),hu],?_⟩
  have:=(hdr_dat h' hY hc' g2 hu).2
  rw [List.getD_eq_getElem?_getD,hx] at this
  exact rep_of_dat rfl this
 rw [hlen] at g3
 obtain ⟨h4,⟨h5,h5'⟩|⟨g,cap,cur,h6,_,h7,h8,h9,h10,h11⟩⟩:=g3
 ·have:ll=[]:=List.eq_nil_of_length_eq_zero h5'
  subst this
  rw [h5]
  exact ⟨⟨[.slice none 0 0],rep_zero Y w (.slice _),rfl⟩,⟨[.slice none 0 0],rep_zero Y w (.slice _),rfl⟩⟩
 ·have hb:¬Y g:=hc g (inC_blk hv (by rw [h6]; rfl))
  have hcell:∀ (i:Nat) (x:List t.den),ll[i]?=some x->rep (.slice t) Y w ((cur.toList.drop (0+i*1)).take 1) x:=by
   intro i x hx
   obtain ⟨h,hxs,hr⟩:=hel i x hx
   have hc1:cur.toList[i]?=some h:=by
    rw [<-h11,List.getElem?_take] at hxs
    split at hxs
    ·exact hxs
    ·cases hxs
   have hil:i<cur.toList.length:=by
    rcases Nat.lt_or_ge i cur.toList.length with h'|h'
    ·exact h'
    ·rw [List.getElem?_eq_none h'] at hc1; cases hc1
   rw [Nat.zero_add,Nat.mul_one,List.drop_eq_getElem_cons hil]
   rw [List.getElem?_eq_getElem hil] at hc1
   rw [Option.some.inj hc1]
   exact hr
  rw [h6]
  exact ⟨⟨[.slice (some ⟨g,0,none⟩) ll.length cap],⟨_,cap,rfl,h8,h9,by simp,fun _=>⟨g,0,cur,T,_,rfl,hb,h7,hcell⟩⟩,rfl⟩,
   ⟨[.slice (some ⟨g,0,none⟩) ll.length cap],⟨_,cap,rfl,h8,h9,by simp,fun _=>⟨g,0,cur,T,_,rfl,hb,h7,hcell⟩⟩,rfl⟩⟩
theorem as1_ok {u:Ty} {x:AV} {a:u.den} {v:Value} (hw:Wd B ρ X ck w) (hY:∀ b,Y b->X b) (hc:∀ x∈ck,∀ b,inC ρ x.1 b->¬Y b) (h:as1 ck u x=some a) (hm:m ρ X w x [v]):m ρ Y w (.dat u a) [v]:=by
 unfold as1 at h
 split at h
 ·exact castD_elim h (fun t a=>m ρ Y w (.dat t a) [v]) (m_anti (fun b hb=>.inl (hY b hb)) hm)
 ·refine castD_elim h (fun t a=>m ρ Y w (.dat t a) [v]) ?_
  have hm:[v]=[.bool _]:=hm
  rw [hm]; exact ⟨_,rfl,rfl⟩
 ·split at h
  ·rename_i c T t l hg
   refine castD_elim h (fun t a=>m ρ Y w (.dat t a) [v]) ?_
   obtain ⟨v',h1,_,h2⟩:=hm
   cases h2
   have hmem:=get?_mem hg
   exact row_dat (hw.cs _ hmem) hY (hc _ hmem) h1
  ·cases h
 ·split at h
  ·rename_i c n T o d hg
   obtain ⟨v',h1,_,h2⟩:=hm
   cases h2
   have hmem:=get?_mem hg
   split at h
   ·rename_i T' t ll hg'
    have hmem':=get?_mem hg'
    have hn:=nest_dat (hw.cs _ hmem) (hw.cs _ hmem') hY (hc _ hmem) (hc _ hmem') h1
    split at h
    ·exact castD_elim h (fun t a=>m ρ Y w (.dat t a) [v]) hn.2
    ·exact castD_elim h (fun t a=>m ρ Y w (.dat t a) [v]) hn.1
   ·cases h
  ·cases h
 ·split at h
  ·rename_i d k T t ll hg
   refine castD_elim h (fun t a=>m ρ Y w (.dat t a) [v]) ?_
   obtain ⟨us,v',h1,h2,_,h3⟩:=hm
   cases h3
   have hmem:=get?_mem hg
   exact (hdr_dat (hw.cs _ hmem) hY (hc _ hmem) h1 h2).2
  ·cases h
 ·split at h
  ·cases h
   have hm:[v]=[.slice none 0 0]:=hm
   rw [hm]
   exact ⟨[.slice none 0 0],rep_zero Y w (.slice _),rfl⟩
  ·cases h
 ·cases h
theorem asDats_ok (hw:Wd B ρ X ck w) (hY:∀ b,Y b->X b) (hc:∀ x∈ck,∀ b,inC ρ x.1 b->¬Y b):∀ {u:Ty} {l r:AV} {a:u.den} {cs:List Value},
    asDats (as1 ck) u l=some (a,r)->m ρ X w l cs->rep u Y w (cs.take u.size) a/\m ρ X w r (cs.drop u.size):=by
 have one:∀ {u:Ty} {x r:AV} {a:u.den} {cs:List Value},u.isAgg=false->as1 ck u x=some a->m ρ X w (.cons x r) cs->rep u Y w (cs.take u.size) a/\m ρ X w r (cs.drop u.size):=by
  intro u x r a cs hu h hm
  obtain ⟨v,us,rfl,h1,h2⟩:=hm
  rw [size1 hu]
  exact ⟨rep_of_dat hu (as1_ok hw hY hc h h1),h2⟩
 intro u
 induction u with
 | pair t u iht ihu =>
  intro l r a cs h hm
  unfold asDats at h
  split at h
  ·rename_i x r1 e1
   split at h
   ·rename_i y r2 e2
    cases h
    obtain ⟨h1,h2⟩:=iht e1 hm
    obtain ⟨h3,h4⟩:=ihu e2 h2
    refine ⟨⟨?_,?_⟩,?_⟩
    ·rw [List.take_take,Nat.min_eq_left (by simp only [Ty.size]; omega)]; exact h1
    ·rw [List.drop_take,show (Ty.pair t u).size-t.size=u.size by simp only [Ty.size]; omega]; exact h3
    ·rw [List.drop_drop] at h4; exact h4
   ·cases h
  ·cases h
 | one t ih=>intro l r a cs h hm; unfold asDats at h; exact ih h hm
 | bool =>
  intro l r a cs h hm
  cases l with
  | cons x k =>
   simp only [asDats] at h
   split at h
   ·cases h; exact one rfl (by assumption) hm
   ·cases h
  | _=>simp [asDats] at h
 | int k =>
  intro l r a cs h hm
  cases l with
  | cons x k =>
   simp only [asDats] at h
   split at h
   ·cases h; exact one rfl (by assumption) hm
   ·cases h
  | _=>simp [asDats] at h
 | str =>
  intro l r a cs h hm
  cases l with
  | cons x k =>
   simp only [asDats] at h
   split at h
   ·cases h; exact one rfl (by assumption) hm
   ·cases h
  | _=>simp [asDats] at h
 | slice t ih =>
  intro l r a cs h hm
  cases l with
  | cons x k =>
   simp only [asDats] at h
   split at h
   ·cases h; exact one rfl (by assumption) hm
   ·cases h
  | _=>simp [asDats] at h
 | fn =>
  intro l r a cs h hm
  cases l<;>simp [asDats] at h
theorem asD_ok {u:Ty} {x:AV} {a:u.den} {v:Value} (hw:Wd B ρ X ck w) (hY:∀ b,Y b->X b) (hc:∀ x∈ck,∀ b,inC ρ x.1 b->¬Y b) (h:asD ck u x=some a) (hm:m ρ X w x [v]):m ρ Y w (.dat u a) [v]:=by
 unfold asD at h
 split at h
 ·split at h
  ·rename_i hag
   split at h
   ·rename_i e
    cases h
    obtain ⟨us,h1,h2,_⟩:=hm
    obtain ⟨h3,h4⟩:=asDats_ok hw hY hc e h2
    cases h1
    have h4:us.drop u.size=[]:=h4
    have:us.length<=u.size:=List.drop_eq_nil_iff.1 h4
    rw [List.take_of_length_le this] at h3
    exact ⟨us,h3,by simp [Ty.wrap,hag]⟩
   ·cases h
  ·cases h
 ·exact as1_ok hw hY hc h hm
def mL (ρ:List Value) (X:Nat->Prop) (w:World):List AV->List Value->Prop
 | [],vs=>vs=[]
 | x::l,vs=>∃ v us,vs=v::us/\m ρ X w x [v]/\mL ρ X w l us
theorem mL_avsL:∀ {l:List AV} {vs:List Value},mL ρ X w l vs->m ρ X w (avsL l) vs
 | [],_,h=>h
 | x::l,_,⟨v,us,e,h1,h2⟩=>⟨v,us,e,h1,mL_avsL h2⟩
theorem mL_avL:∀ {l:AV} {vs:List Value},isL l=true->m ρ X w l vs->mL ρ X w (avL l) vs
 | .nil,_,_,h=>h
 | .cons x l,_,hl,⟨v,us,e,h1,h2⟩=>⟨v,us,e,h1,mL_avL (l:=l) hl h2⟩
theorem mL_cat:∀ {l k:List AV} {vs us:List Value},mL ρ X w l vs->mL ρ X w k us->mL ρ X w (catL l k) (vs++us)
 | [],k,_,us,h,h'=>by cases h; exact h'
 | x::l,k,_,us,⟨v,vs,e,h1,h2⟩,h'=>⟨v,vs++us,by rw [e]; rfl,h1,mL_cat h2 h'⟩
theorem asArgs_ok (hw:Wd B ρ X ck w) (hY:∀ b,Y b->X b) (hc:∀ x∈ck,∀ b,inC ρ x.1 b->¬Y b):∀ {l:List Ty} {xs:List AV} {d:dens l} {vs:List Value},asArgs ck l xs=some d->mL ρ X w xs vs->m ρ Y w (argAVs l d) vs
 | [],[],d,vs,h,hm=>hm
 | t::l,x::xs,d,vs,h,hm=>by
  obtain ⟨v,us,rfl,h1,h2⟩:=hm
  simp only [asArgs] at h
  split at h
  ·rename_i e1
   split at h
   ·rename_i e2
    cases h
    exact ⟨v,us,rfl,asD_ok hw hY hc e1 h1,asArgs_ok hw hY hc e2 h2⟩
   ·cases h
  ·cases h
 | [],_::_,d,vs,h,hm=>by simp [asArgs] at h
 | _::_,[],d,vs,h,hm=>by simp [asArgs] at h
end
def inB (Bo:List Value) (b:Nat):Prop:=∃ i:Nat,inC Bo i b
structure Kept (Bo:List Value) (w0 w:World):Prop where
 os:w.os=w0.os
 tape:w.tape=w0.tape
 output:w.output=w0.output
 size:w0.heap.size<=w.heap.size
 block:∀ k,k<w0.heap.size->¬inB Bo k->w.heap[k]?=w0.heap[k]?
theorem Kept.refl {Bo:List Value} (w:World):Kept Bo w w:=⟨rfl,rfl,rfl,Nat.le_refl _,fun _ _ _=>rfl⟩
theorem Kept.below {Bo:List Value} {w0 w w':World} (h:Kept Bo w0 w) (hb:Below w.heap.size w w'):Kept Bo w0 w' :=
 ⟨hb.os.trans h.os,hb.tape.trans h.tape,hb.output.trans h.output,Nat.le_trans h.size hb.size,fun k hk hn=>(hb.block k (Nat.lt_of_lt_of_le hk h.size)).trans (h.block k hk hn)⟩
theorem inB_nil {b:Nat} (h:inB [] b):False:=by
 obtain ⟨i,h⟩:=h
 simp [inC,inO] at h
theorem Kept.to_below {w0 w:World} (h:Kept [] w0 w):Below w0.heap.size w0 w:=⟨h.os,h.tape,h.output,h.size,fun k hk=>h.block k hk inB_nil⟩
def XX (X0:Nat->Prop) (ρ:List Value) (ck:List (Nat×CT)) (b:Nat):Prop:=X0 b∨∃ x∈ck,inC ρ x.1 b
structure Pn (w0:World) (X0:Nat->Prop) (Bo:List Value) (ck:List (Nat×CT)) (nx:Nat) (ρ:List Value):Prop where
 bo:∀ b,inB Bo b->b<w0.heap.size/\¬X0 b
 le:Bo.length<=nx
 pn:∀ x∈ck,∀ T l,x.2=.box T l->x.1<Bo.length->ρ[x.1]?=Bo[x.1]?
structure Fr (w0:World) (X0:Nat->Prop) (Bo:List Value) (N:Nat) (st:St) (ρ:List Value) (a:Act) (w:World):Prop where
 dn:a.defers=[]
 sz:a.tmps.size=N
 kp:Kept Bo w0 w
 nx:ρ.length=st.nx
 nd:(st.ck.map (·.1)).Nodup
 kn:∀ x∈st.ck,x.1<st.nx
 bl:∀ x∈st.ck,∀ b,inC ρ x.1 b->b<w.heap.size/\(w0.heap.size<=b∨inB Bo b)
 dj:∀ x∈st.ck,∀ y∈st.ck,x.1≠y.1->∀ b,inC ρ x.1 b->¬inC ρ y.1 b
 cs:∀ x∈st.ck,cm 0 ρ (XX X0 ρ st.ck) w x.1 x.2
 sl:∀ t x,get? st.sl t=some x->m ρ (XX X0 ρ st.ck) w x [gt a t]
 pn:Pn w0 X0 Bo st.ck st.nx ρ
end Go.Proofs.Ytbokoblnehgkaaa.Gx
namespace Go.Proofs.Ytbokoblnehgkaaa.Gx
open Go Go.RowKit Tw
set_option linter.unusedVariables false
section
variable {P:Program} {ρ:List Value} {X:Nat->Prop} {w:World}
theorem does_val {σ:Operand->Value} {o:Oper} {w':World} {v:Value} {R:Value->World->Prop} (h:(execOp σ o).run P w=.ok (.value v) w') (hR:R v w'):Does P σ o w R:=by
 unfold Does; rw [h]; exact hR
theorem m_int {k:IntKind} {n:Int} {v:Value} (h:m ρ X w (.dat (.int k) n) [v]):v=.int k n/\inR k n:=by
 obtain ⟨cs,⟨rfl,h1⟩,h2⟩:=h
 simp [Ty.wrap,Ty.isAgg] at h2
 exact ⟨h2,h1⟩
theorem m_int_of {k:IntKind} {n:Int} (h:inR k n):m ρ X w (.dat (.int k) n) [.int k n]:=⟨_,⟨rfl,h⟩,rfl⟩
theorem m_bool {b:Bool} {v:Value} (h:m ρ X w (.dat .bool b) [v]):v=.bool b:=by
 obtain ⟨cs,h1,h2⟩:=h
 have h1:cs=[.bool b]:=h1
 subst h1
 simp [Ty.wrap,Ty.isAgg] at h2
 exact h2
theorem m_bool_of {b:Bool}:m ρ X w (.dat .bool b) [.bool b]:=⟨_,rfl,rfl⟩
theorem m_str {s:List UInt8} {v:Value} (h:m ρ X w (.dat .str s) [v]):v=.string ⟨s.toArray⟩/\s.length<=maxLen:=by
 obtain ⟨cs,⟨rfl,h1⟩,h2⟩:=h
 simp [Ty.wrap,Ty.isAgg] at h2
 exact ⟨h2,h1⟩
theorem m_str_of {s:List UInt8} (h:s.length<=maxLen):m ρ X w (.dat .str s) [.string ⟨s.toArray⟩]:=⟨_,⟨rfl,h⟩,rfl⟩
theorem m_asBo {x:AV} {b:Bool} {v:Value} (h:asBo x=some b) (hm:m ρ X w x [v]):v=.bool b:=by
 unfold asBo at h
 split at h
 ·cases h; exact m_bool hm
 ·cases h; simpa [m] using hm
 ·cases h
theorem inR_wrap (k:IntKind) (n:Int):inR k (k.wrap n):=by
 cases k<;>simp only [inR,lo,hi,IntKind.wrap,IntKind.bits,IntKind.signed]<;>simp<;>omega
theorem inR_shr (k:IntKind) (x y:Int) (h:inR k x):inR k (shrI k x y):=by
 unfold shrI
 have hp:(1:Int)<=2 ^ (min y.toNat k.bits):=by
  have:=Int.pow_pos (n:=2) (m:=min y.toNat k.bits) (by decide)
  omega
 generalize (2:Int) ^ (min y.toNat k.bits)=q at hp
 rw [Int.fdiv_eq_ediv_of_nonneg _ (by omega)]
 have h0:lo k<=0:=by cases k<;>decide
 have h1:0<=hi k:=by cases k<;>decide
 constructor
 ·rcases Int.lt_or_le x 0 with hx|hx
  ·have:x<=x / q:=by
     rw [Int.le_ediv_iff_mul_le (by omega)]
     have:x*q<=x*1:=Int.mul_le_mul_of_nonpos_left (by omega) hp
     omega
   omega
  ·have:=Int.ediv_nonneg hx (show 0<=q by omega)
   omega
 ·rcases Int.lt_or_le x 0 with hx|hx
  ·have:=Int.ediv_neg_of_neg_of_pos hx (show 0<q by omega)
   omega
  ·have:=Int.ediv_le_self q hx
   have:=h.2
   omega
theorem wrI_ok {an:An} {k:IntKind} {n:Int} {r:AV} {ps:List Prop} (h:wrI an k n=(r,ps)) (hp:AllP ps):m ρ X w r [.int k (k.wrap n)]:=by
 unfold wrI at h
 split at h<;>cases h
 ·exact m_int_of (inR_wrap _ _)
 ·rw [wrap_in hp.1]; exact m_int_of hp.1
theorem binI_ok {an:An} {op:BinOp} {k:IntKind} {x y:Int} {r:AV} {ps:List Prop} (h:binI an op k x y=some (r,ps)) (hp:AllP ps) (T:TypeId) (o1 o2:Operand) :
    ∃ v,(do eqGuard op T o1 o2 (.int k x) (.int k y); binOp op T (.int k x) (.int k y):Sem Value).run P w=.ok v w/\m ρ X w r [v]:=by
 unfold binI at h
 cases op<;>simp only [Option.some.injEq,Prod.mk.injEq,reduceCtorEq] at h
 case add=>exact ⟨.int k (k.wrap (x+y)),by simp [go_sem],wrI_ok h hp⟩
 case sub=>exact ⟨.int k (k.wrap (x-y)),by simp [go_sem],wrI_ok h hp⟩
 case mul=>exact ⟨.int k (k.wrap (x*y)),by simp [go_sem],wrI_ok h hp⟩
 all_goals (obtain ⟨rfl,rfl⟩:=h)
 case quo=>exact ⟨.int k (k.wrap (x.tdiv y)),by simp [go_sem,hp.1],by rw [wrap_in hp.2.1]; exact m_int_of hp.2.1⟩
 case rem=>exact ⟨.int k (x.tmod y),by simp [go_sem,hp.1],m_int_of hp.2.1⟩
 case and=>exact ⟨.int k (bitsI .and k x y),by simp [go_sem,bitsI,Op.intBits],m_int_of (inR_wrap _ _)⟩
 case or=>exact ⟨.int k (bitsI .or k x y),by simp [go_sem,bitsI,Op.intBits],m_int_of (inR_wrap _ _)⟩
 case xor=>exact ⟨.int k (bitsI .xor k x y),by simp [go_sem,bitsI,Op.intBits],m_int_of (inR_wrap _ _)⟩
 case andNot=>exact ⟨.int k (bitsI .andNot k x y),by simp [go_sem,bitsI,Op.intBits],m_int_of (inR_wrap _ _)⟩
 case eql =>
  have:(x == y)=decide (x=y):=by by_cases h:x=y<;>simp [h]
  exact ⟨_,by simp [go_sem,this],m_bool_of⟩
 case neq =>
  have:(x != y)=decide (x≠y):=by by_cases h:x=y<;>simp [h]
  exact ⟨_,by simp [go_sem,this],m_bool_of⟩
 case lss=>exact ⟨_,by simp [go_sem],m_bool_of⟩
 case leq=>exact ⟨_,by simp [go_sem],m_bool_of⟩
 case gtr=>exact ⟨_,by simp [go_sem],m_bool_of⟩
 case geq=>exact ⟨_,by simp [go_sem],m_bool_of⟩
theorem binS_ok {op:BinOp} {x y:List UInt8} {r:AV} {ps:List Prop} (h:binS op x y=some (r,ps)) (hp:AllP ps) (T:TypeId) (o1 o2:Operand) :
    ∃ v,(do eqGuard op T o1 o2 (.string ⟨x.toArray⟩) (.string ⟨y.toArray⟩); binOp op T (.string ⟨x.toArray⟩) (.string ⟨y.toArray⟩):Sem Value).run P w=.ok v w/\m ρ X w r [v]:=by
 have e:(x == y)=decide (x=y):=by by_cases h:x=y<;>simp [h]
 unfold binS at h
 cases op<;>simp only [Option.some.injEq,Prod.mk.injEq,reduceCtorEq] at h
 all_goals (obtain ⟨rfl,rfl⟩:=h)
 case add =>
  have h1:¬(((ByteArray.mk x.toArray).size+(ByteArray.mk y.toArray).size:Nat):Int)>IntKind.i64.max:=by
   have:=hp.1
   simp [ByteArray.size,IntKind.max,IntKind.signed,IntKind.bits]; omega
  have h2:ByteArray.mk x.toArray++ByteArray.mk y.toArray=⟨(x++y).toArray⟩:=by
   apply ByteArray.ext; simp
  exact ⟨.string ⟨(x++y).toArray⟩,by rw [<-h2]; simp only [binOp_string_add,Op.stringOp,if_neg h1]; simp [go_sem,eqGuard],m_str_of (by simpa [maxLen] using hp.1)⟩
 case eql=>exact ⟨.bool (decide (x=y)),by simp [go_sem,ByteArray.toList_eq,e,eqGuard],m_bool_of⟩
 case neq=>exact ⟨.bool (decide (x≠y)),by simp [go_sem,ByteArray.toList_eq,e,eqGuard],m_bool_of⟩
 case lss=>exact ⟨.bool (strLt x y),by simp [binOp,Op.stringOp,strLt,ByteArray.toList_eq,eqGuard],m_bool_of⟩
 case leq=>exact ⟨.bool (strLt x y||decide (x=y)),by simp [binOp,Op.stringOp,strLt,ByteArray.toList_eq,eqGuard,e],m_bool_of⟩
 case gtr=>exact ⟨.bool (!(strLt x y||decide (x=y))),by simp [binOp,Op.stringOp,strLt,ByteArray.toList_eq,eqGuard,e],m_bool_of⟩
 case geq=>exact ⟨.bool (!strLt x y),by simp [binOp,Op.stringOp,strLt,ByteArray.toList_eq,eqGuard],m_bool_of⟩
theorem binB_ok {op:BinOp} {x y:Bool} {r:AV} {ps:List Prop} (h:binB op x y=some (r,ps)) (hp:AllP ps) (T:TypeId) (hT:P.underlying T=some .bool) (o1 o2:Operand) :
    ∃ v,(do eqGuard op T o1 o2 (.bool x) (.bool y); binOp op T (.bool x) (.bool y):Sem Value).run P w=.ok v w/\m ρ X w r [v]:=by
 unfold binB at h
 cases op<;>simp only [Option.some.injEq,Prod.mk.injEq,reduceCtorEq] at h
 all_goals (obtain ⟨rfl,rfl⟩:=h)
 case eql=>exact ⟨.bool (decide (x=y)),by cases x<;>cases y<;>simp [go_sem,hT],m_bool_of⟩
 case neq=>exact ⟨.bool (decide (x≠y)),by cases x<;>cases y<;>simp [go_sem,hT],m_bool_of⟩
end
section
variable {P:Program} {ρ:List Value} {X:Nat->Prop} {w:World} {T:TypeId} {e:TE}
theorem TyFact.info (hf:TyFact P T e):∃ i,P.info? T=some i/\i.zero=some (e.ty.wrap (zc e.ty))/\i.size=e.ty.size/\i.bytes=e.bytes:=by
 have h:=hf.i
 cases hi:P.info? T with
 | none=>rw [hi] at h; cases h
 | some i=>rw [hi] at h; simp at h; exact ⟨i,rfl,h.1,h.2.1,h.2.2⟩
theorem TyFact.run_size (hf:TyFact P T e):(sizeOf T).run P w=.ok e.ty.size w:=by
 obtain ⟨i,hi,_,hs,_⟩:=hf.info
 simp [sizeOf,typeInfo,hi,hs,go_sem]
theorem TyFact.run_isAgg (hf:TyFact P T e):(isAgg T).run P w=.ok e.ty.isAgg w:=by
 have h:=hf.u
 cases hi:P.underlying T with
 | none=>rw [hi] at h; cases h
 | some d =>
  rw [hi] at h
  simp only [Option.map_some,Option.some.injEq] at h
  rw [<-h]
  cases d<;>simp [isAgg,run_underlying hi,aggD]
theorem wrap_cells {t:Ty} {cs:List Value} (hl:cs.length=t.size) (h1:∀ c∈cs,c.oneCell'=true):(t.wrap cs).cells=cs.toArray:=by
 unfold Ty.wrap
 by_cases h:t.isAgg=true
 ·rw [if_pos h]; rfl
 ·rw [if_neg h]
  have:=size1 (by simpa using h)
  rw [this] at hl
  match cs,hl with
  | [c],_ =>
   have:=h1 c (by simp)
   cases c<;>simp_all [Value.oneCell',Value.cells]
theorem cell_of {b off:Nat} {C:Array Value} {T':TypeId} {f:Nat×Nat} (hb:w.heap[b]?=some (.cells C T' f)):w.cell? ⟨b,off,none⟩=C[off]?:=by simp [World.cell?,hb]
theorem run_loadVar (hf:TyFact P T e) {b off:Nat} {C:Array Value} {T':TypeId} {f:Nat×Nat} (hb:w.heap[b]?=some (.cells C T' f)) {cs:List Value}
    (hcs:(C.toList.drop off).take e.ty.size=cs) (hl:cs.length=e.ty.size):(loadVar T ⟨b,off,none⟩).run P w=.ok (e.ty.wrap cs) w:=by
 have hc:∀ j v,cs[j]?=some v->w.cell? (Addr.add ⟨b,off,none⟩ j)=some v:=by
  intro j v hj
  rw [Addr.add_lit,cell_of hb]
  rw [<-hcs] at hj
  rw [List.getElem?_take] at hj
  split at hj
  ·rw [List.getElem?_drop] at hj
   simpa using hj
  ·cases hj
 unfold loadVar
 rw [Sem.run_bind,hf.run_isAgg]
 simp only [Result.andThen_ok]
 by_cases h:e.ty.isAgg=true
 ·rw [if_pos h,Sem.run_bind,hf.run_size]
  simp only [Result.andThen_ok]
  rw [Sem.run_bind,<-hl,run_loadCells_list w _ cs hc]
  simp [Ty.wrap,h]
 ·rw [if_neg h]
  have h1:=size1 (by simpa using h)
  rw [h1] at hl
  match cs,hl,hc with
  | [c],_,hc =>
   have:=hc 0 c rfl
   simp only [Addr.add_lit,Nat.add_zero] at this
   simp [load,Sem.run,this,Ty.wrap,h]
theorem run_storeVar (hf:TyFact P T e) {b off:Nat} {C:Array Value} {T':TypeId} (hb:w.heap[b]?=some (.cells C T' (0,0))) {cs:List Value}
    (hl:cs.length=e.ty.size) (h1:∀ c∈cs,c.oneCell'=true) (hfit:off+e.ty.size<=C.size) :
    (storeVar T ⟨b,off,none⟩ (e.ty.wrap cs)).run P w=.ok () (w.setRow b (C.toList.take off++cs++C.toList.drop (off+e.ty.size)).toArray):=by
 unfold storeVar
 rw [Sem.run_bind,hf.run_size]
 simp only [Result.andThen_ok,wrap_cells hl h1,List.size_toArray,hl,ne_eq,not_true_eq_false,if_false]
 have:=run_storeCells_at P b off T' cs 0 C w hb (by omega) h1
 simp only [Nat.add_zero] at this
 simp [go_sem,this,hl]
theorem run_indexAt {t:Ty} {l:List t.den} {v:Value} {n:Int} {k:IntKind} {e':TE} (hf:TyFact P T e) (hs:e.ty=.slice t) (he:TyFact P e.elem e') (ht:e'.ty.size=t.size)
    (hm:m ρ X w (.dat (.slice t) l) [v]) (h0:0<=n) (h1:n<(l.length:Int)):∃ p,(Instr.indexAt T v (.int k n)).run P w=.ok p w/\m ρ X w (.elt t (l.getD n.toNat (zd t))) [p]:=by
 obtain ⟨cs,⟨a,cap,rfl,h2,h3,h4,h5⟩,hv⟩:=hm
 simp [Ty.wrap,Ty.isAgg] at hv
 subst hv
 have hn:n.toNat<l.length:=by omega
 obtain ⟨b,off,C,T',f,rfl,g2,g3,g4⟩:=h5 (by intro e; rw [e] at hn; simp at hn)
 have hx:l[n.toNat]?=some (l.getD n.toNat (zd t)):=by simp [hn]
 have hu:P.underlying T=some (.slice e.elem):=by have:=hf.s; rw [hs] at this; exact this
 have hr:=g4 _ _ hx
 refine ⟨.pointer (some ⟨b,off+n.toNat*t.size,none⟩),?_,b,_,C,T',f,rfl,g2,g3,hr⟩
 have hsz:=he.run_size (w:=w)
 rw [ht] at hsz
 simp [Instr.indexAt,asIntOf,run_underlying hu,h0,h1,hsz,Addr.add_lit]
theorem run_fieldAt {f o:Nat} {u:(u:Ty)×(e.ty.den->u.den)} (hf:TyFact P T e) (hfl:fld e.ty e.nf f=some (o,u)) (hn:f<e.nf) (b off:Nat) :
    (Instr.fieldAt T (.pointer (some ⟨b,off,none⟩)) f).run P w=.ok (.pointer (some ⟨b,off+o,none⟩)) w:=by
 have h:=List.all_eq_true.1 hf.f f (List.mem_range.2 hn)
 unfold fieldOk at h
 rw [hfl] at h
 cases hd:P.underlying T with
 | none=>rw [hd] at h; simp at h
 | some d =>
  rw [hd] at h
  cases d<;>simp only [Bool.false_eq_true] at h
  rename_i fs
  cases hF:fs[f]? with
  | none=>rw [hF] at h; simp at h
  | some F =>
   rw [hF] at h
   simp only [Bool.and_eq_true,beq_iff_eq] at h
   obtain ⟨h1,h2⟩:=h
   cases hi:P.info? F.type with
   | none=>rw [hi] at h2; simp at h2
   | some i =>
    rw [hi] at h2
    simp at h2
    obtain ⟨h2,h3⟩:=h2
    simp [Instr.fieldAt,run_underlying hd,hF,Instr.sureAddr,fieldPlace,sizeOf,typeInfo,hi,h2,h1,Addr.add_lit]
theorem m_field {f o:Nat} {u:Ty} {g:e.ty.den->u.den} {a:e.ty.den} {v:Value} (hf:TyFact P T e) (hfl:fld e.ty e.nf f=some (o,⟨u,g⟩)) (hn:f<e.nf) (hm:m ρ X w (.elt e.ty a) [v]) :
    ∃ p,(Instr.fieldAt T v f).run P w=.ok p w/\m ρ X w (.elt u (g a)) [p]:=by
 obtain ⟨b,off,C,T',f',hv,g1,g2,g3⟩:=hm
 cases hv
 refine ⟨_,run_fieldAt hf hfl hn b off,b,_,C,T',f',rfl,g1,g2,?_⟩
 obtain ⟨h1,h2⟩:=fld_spec hfl
 have:=h2 g3
 rw [List.drop_take,List.drop_drop,List.take_take,Nat.min_eq_left (by omega)] at this
 exact this
theorem m_load {a:e.ty.den} {v:Value} (hf:TyFact P T e) (hm:m ρ X w (.elt e.ty a) [v]):∃ r,(Instr.loadAt T v).run P w=.ok r w/\m ρ X w (.dat e.ty a) [r]:=by
 obtain ⟨b,off,C,T',f',hv,g1,g2,g3⟩:=hm
 cases hv
 refine ⟨_,?_,_,g3,rfl⟩
 simp only [Instr.loadAt,Instr.sureAddr,Sem.run_bind,Sem.run_pure,Result.andThen_ok]
 exact run_loadVar hf g2 rfl (rep_len g3)
end
end Go.Proofs.Ytbokoblnehgkaaa.Gx
namespace Go.Proofs.Ytbokoblnehgkaaa.Gx
open Go Go.RowKit Tw
set_option linter.unusedVariables false
def CallOk (P:Program) (f:FuncId) (args res:AV):Prop :=
 (∀ args w,(callFunc f args).run P w=.ok (.enter f args) w) /\
 ∀ ρ X w vs,(∀ b,X b->b<w.heap.size)->m ρ X w args vs->Calls P f vs.toArray w (fun e w'=>∃ v,e=.returned v/\m ρ X w' res [v]/\Below w.heap.size w w')
def SpecOk (P:Program) (f:FuncId) (s:Spec):Prop:=∀ d,AllP (s.F d).2->CallOk P f (argAVs s.tys d) (s.F d).1
def mArgsR:(l:List PK)->dens (pkD l)->Nat->Nat->AV
 | [],_,_,_=>.nil
 | .d t::l,d,k,r=>.cons (.dat t d.1) (mArgsR l d.2 k r)
 | .b _ _::l,d,k,r=>.cons (.ref k 0) (mArgsR l d.2 (k+1) r)
 | .br _ _ _::l,d,k,r=>.cons (.ref k 0) (mArgsR l d.2 (k+1) (r+1))
 | .bf _ _::l,d,k,r=>.cons (.ref k 0) (mArgsR l d (k+1) r)
 | .c f _ _::l,d,k,r=>.cons (.clo f (.cons (.ref k 0) .nil)) (mArgsR l d.2 (k+1) r)
 | .k f::l,d,k,r=>.cons (.clo f .nil) (mArgsR l d k r)
 | .r _ _::l,d,k,r=>.cons (.own r) (mArgsR l d.2 k (r+1))
 | .n::l,d,k,r=>.cons (.val (.slice none 0 0)) (mArgsR l d k r)
def mCkR:(l:List PK)->dens (pkD l)->Nat->Nat->List (Nat×CT)
 | [],_,_,_=>[]
 | .d _::l,d,k,r=>mCkR l d.2 k r
 | .b T t::l,d,k,r=>(k,.box T (dA t d.1 .nil))::mCkR l d.2 (k+1) r
 | .br T Tr t::l,d,k,r=>(k,.box T (.cons (.own r) .nil))::(r,.row Tr t d.1)::mCkR l d.2 (k+1) (r+1)
 | .bf T f::l,d,k,r=>(k,.box T (.cons (.clo f (.cons (.ref (k+1) 0) .nil)) .nil))::mCkR l d (k+1) r
 | .c _ T t::l,d,k,r=>(k,.box T (dA t d.1 .nil))::mCkR l d.2 (k+1) r
 | .k _::l,d,k,r=>mCkR l d k r
 | .r Tr t::l,d,k,r=>(r,.row Tr t d.1)::mCkR l d.2 k (r+1)
 | .n::l,d,k,r=>mCkR l d k r
def nBx:List PK->Nat
 | []=>0
 | .d _::l=>nBx l
 | .b _ _::l=>nBx l+1
 | .br _ _ _::l=>nBx l+1
 | .bf _ _::l=>nBx l+1
 | .c _ _ _::l=>nBx l+1
 | .k _::l=>nBx l
 | .r _ _::l=>nBx l
 | .n::l=>nBx l
def nRw:List PK->Nat
 | []=>0
 | .br _ _ _::l=>nRw l+1
 | .d _::l=>nRw l
 | .b _ _::l=>nRw l
 | .bf _ _::l=>nRw l
 | .c _ _ _::l=>nRw l
 | .k _::l=>nRw l
 | .r _ _::l=>nRw l+1
 | .n::l=>nRw l
def mArgs (l:List PK) (d:dens (pkD l)) (k:Nat):AV:=mArgsR l d k (addN k (nBx l))
def mCks (l:List PK) (d:dens (pkD l)) (k:Nat):List (Nat×CT):=mCkR l d k (addN k (nBx l))
def mNb (l:List PK):Nat:=addN (nBx l) (nRw l)
def act0:Act:={ tmps:=#[],defers:=[] }
def MCallOk (P:Program) (f:FuncId) (s:MSpec) (d:dens (pkD s.pks)):Prop :=
 (∀ args w,(callFunc f args).run P w=.ok (.enter f args) w) /\
 ∀ ρ0 X w vs,(∀ b,X b->b<w.heap.size)->Fr w X ρ0 0 ⟨[],mCks s.pks d 0,mNb s.pks⟩ ρ0 act0 w->m ρ0 (XX X ρ0 (mCks s.pks d 0)) w (mArgs s.pks d 0) vs ->
  Calls P f vs.toArray w (fun e w'=>∃ v ρ',e=.returned v/\Fr w X ρ0 0 ⟨[],(s.F d).ck,(s.F d).nx⟩ ρ' act0 w'/\m ρ' (XX X ρ' (s.F d).ck) w' (s.F d).out [v])
def MSpecOk (P:Program) (f:FuncId) (s:MSpec):Prop:=∀ d,AllP (s.F d).pre->MCallOk P f s d
structure Env.Ok (E:Env):Prop where
 ty:∀ x∈E.tys,TyFact E.P x.1 x.2
 sp:∀ x∈E.sp,SpecOk E.P x.1 x.2
 ms:∀ x∈E.ms,MSpecOk E.P x.1 x.2
 mx:E.P.follows .mixedOrders=true
theorem Env.Ok.fact {E:Env} (h:E.Ok) {T:TypeId} {e:TE} (he:E.te T=some e):TyFact E.P T e:=h.ty _ (get?_mem he)
theorem TyFact.und {P:Program} {T:TypeId} {e:TE} (h:TyFact P T e):∃ s,P.underlying T=some s:=by
 have:=h.u
 cases hs:P.underlying T with
 | none=>rw [hs] at this; cases this
 | some s=>exact ⟨s,rfl⟩
section
variable {E:Env} {B:Nat} {ρ:List Value} {X:Nat->Prop} {w:World} {ck:List (Nat×CT)} {look:Operand->Option AV} {a:Act} {r:AV} {ps:List Prop}
  {d:Option Nat} {ty:TypeId} {pos:String} {af:Array Edge} {g:Option (Nat×Bool)} {an:An} {op:Op}
def okV:Value->Bool
 | .int k n=>decide (lo k<=n)&&decide (n<=hi k)
 | .string s=>decide (s.data.toList.length<=1000000)
 | _=>true
def okO:Operand->Bool
 | .const v=>okV v
 | _=>true
theorem m_cAV {v:Value} (h:okV v=true):m ρ X w (cAV v) [v]:=by
 unfold cAV
 split
 ·simp only [okV,Bool.and_eq_true,decide_eq_true_eq] at h
  exact m_int_of h
 ·rfl
 ·simp only [okV,decide_eq_true_eq] at h
  exact m_str_of (s:=ByteArray.data _ |>.toList) (by simp only [maxLen]; omega)
 ·rfl
theorem lk_ok {sl:List (Nat×AV)} (h:∀ t x,get? sl t=some x->m ρ X w x [gt a t]) {x:Operand} {y:AV} (ho:okO x=true) (hx:lk sl x=some y):m ρ X w y [a.eval x]:=by
 cases x with
 | tmp t=>exact h _ _ hx
 | const v=>cases hx; exact m_cAV ho
 | global g=>cases hx
 | func f=>cases hx; exact ⟨[],rfl,rfl⟩
section
variable {look look':Operand->Option AV}
theorem optI_congr {x:Option Operand} {l:List Operand} (h:∀ y∈optL x l,look y=look' y):optI look x=optI look' x:=by
 cases x with
 | none=>rfl
 | some x=>simp only [optI]; rw [h x (by simp [optL])]
theorem optL_tail {x:Option Operand} {l:List Operand} (h:∀ y∈optL x l,look y=look' y):∀ y∈l,look y=look' y:=by
 cases x with
 | none=>exact h
 | some x=>exact fun y hy=>h y (by simp [optL,hy])
theorem argsL_congr:∀ {l:List Operand},(∀ x∈l,look x=look' x)->argsL look l=argsL look' l
 | [],_=>rfl
 | x::l,h=>by
  simp only [argsL]; rw [h x (by simp),argsL_congr fun y hy=>h y (by simp [hy])]
theorem fillA_congr {pl:Nat->Option (Nat×Ty)}:∀ {ps:List (Nat×Operand)} {acc:AV},(∀ x∈partL ps,look x=look' x)->fillA look pl ps acc=fillA look' pl ps acc
 | [],acc,_=>rfl
 | (i,x)::l,acc,h=>by
  simp only [fillA,h x (by simp [partL])]
  split
  ·split
   ·split
    ·split
     ·exact fillA_congr fun y hy=>h y (by simp [partL,hy])
     ·rfl
    ·rfl
   ·rfl
  ·rfl
theorem pop_congr (h:∀ x∈opL op,look x=look' x):pop E look ck op an=pop E look' ck op an:=by
 cases op<;>simp only [opL,List.mem_cons,List.not_mem_nil,or_false,forall_eq_or_imp,forall_eq] at h<;>unfold pop<;>try rfl
 all_goals try (simp only [h])
 case slice T x l hh mm =>
  obtain ⟨_,h2⟩:=h
  simp only [sliceA,tailA,optI_congr h2,optI_congr (optL_tail h2),optI_congr (optL_tail (optL_tail h2))]
 case build T ps =>
  simp only [fillA_congr h]
 case buildSlice T n ps =>
  simp only [litD,fillA_congr h]
 case makeFunc fn fst caps =>
  rw [argsL_congr h]
 case call c =>
  obtain ⟨callee,args,ats⟩:=c
  simp only [callA]
  cases callee with
  | value f =>
   cases f<;>try rfl
   ·simp only at h ⊢
    rw [h _ List.mem_cons_self,argsL_congr fun x hx=>h x (List.mem_cons_of_mem _ hx)]
   ·simp only at h
    simp only [argsL_congr h]
  | invoke _ _=>rfl
  | builtin b =>
   cases b<;>try rfl
   all_goals (
    simp only at h
    generalize args.toList=l at h
    match l,h with
    | [],_=>rfl
    | [x],h =>
     have h1:=h x (by simp)
     rcases ats.toList with _|⟨T,_|⟨_,_⟩⟩<;>simp [h1]
    | [x,y],h =>
     have h1:=h x (by simp)
     have h2:=h y (by simp)
     simp only [h1,h2]
    | _::_::_::_,_=>rfl)
end
theorem ptr_neq_nil {P:Program} {T e:TypeId} (he:P.underlying T=some (.pointer e)) (w:World) (a:Addr) (v:Bool) (bo:BinOp) (hb:(bo=.eql/\v=false)∨(bo=.neq/\v=true)) (o1 o2:Operand) :
    (do eqGuard bo T o1 o2 (.pointer (some a)) (.pointer none); binOp bo T (.pointer (some a)) (.pointer none):Sem Value).run P w=.ok (.bool v) w:=by
 have h:∀ d:Nat,(Op.equalIn (d+1) T (.pointer (some a)) (.pointer none)).run P w=.ok false w:=fun d=>by
  simp [Op.equalIn,run_underlying he]
 have h:=h 9999
 have h:(Op.equalIn Op.maxDepth T (.pointer (some a)) (.pointer none)).run P w=.ok false w:=h
 rcases hb with ⟨rfl,rfl⟩|⟨rfl,rfl⟩
 ·simp [eqGuard,binOp,Op.equal,h]
 ·simp [eqGuard,binOp,Op.equal,h]
theorem sli_eq_nil {P:Program} {T e:TypeId} (he:P.underlying T=some (.slice e)) (w:World) (a:Option Addr) (n c:Nat) (o1 o2:Operand) :
    (do eqGuard .eql T o1 o2 (.slice a n c) (.slice none 0 0); binOp .eql T (.slice a n c) (.slice none 0 0):Sem Value).run P w=.ok (.bool a.isNone) w:=by
 have h:∀ d:Nat,(Op.equalIn (d+1) T (.slice a n c) (.slice none 0 0)).run P w=.ok a.isNone w:=fun d=>by
  cases a<;>simp [Op.equalIn,run_underlying he]
 have h:=h 9999
 have h:(Op.equalIn Op.maxDepth T (.slice a n c) (.slice none 0 0)).run P w=.ok a.isNone w:=h
 simp [eqGuard,binOp,Op.equal,h]
theorem m_a3 {t:Ty} {x:t.den} {y:a3T.den} {u:Value} (hc:castD t a3T x=some y) (hx:m ρ X w (.dat t x) [u]):u=.agg #[.int .i64 y.1,.int .i64 y.2.1,.int .i64 y.2.2]:=by
 have hx:m ρ X w (.dat a3T y) [u]:=castD_elim hc (fun v a=>m ρ X w (.dat v a) [u]) hx
 obtain ⟨cs,⟨h1,h2,h3⟩,hu⟩:=hx
 have h1:cs.take 1=[.int .i64 y.1]/\_:=h1
 have h2:(cs.drop 1).take 1=[.int .i64 y.2.1]/\_:=h2
 have h3:(cs.drop 1).drop 1=[.int .i64 y.2.2]/\_:=h3
 have:cs=[.int .i64 y.1,.int .i64 y.2.1,.int .i64 y.2.2]:=by
  rw [<-List.take_append_drop 1 cs,h1.1,<-List.take_append_drop 1 (cs.drop 1),h2.1,h3.1]; rfl
 rw [this] at hu
 exact (List.cons.inj hu).1
theorem a3_equal {P:Program} {T el:TypeId} {inf:TypeInfo} (w:World) (hu:P.underlying T=some (.array 3 el)) (hk:P.underlying el=some (.int .i64)) (hi:P.info? el=some inf) (hsz:inf.size=1) (a b c a' b' c':Int) (d:Nat) :
   (Op.equalIn (d+2) T (.agg #[.int .i64 a,.int .i64 b,.int .i64 c]) (.agg #[.int .i64 a',.int .i64 b',.int .i64 c'])).run P w=.ok (decide (a=a')&&decide (b=b')&&decide (c=c')) w:=by
 have hp:∀ (xs:Array Value) (i:Nat) (v:Value),xs[i]?=some v->(part el xs i).run P w=.ok v w:=fun xs i v h=>by
  simp [part,isAgg,run_underlying hk,h]
 have he:∀ x y:Int,(Op.equalIn (d+1) el (.int .i64 x) (.int .i64 y)).run P w=.ok (x == y) w:=fun x y=>by
  simp [Op.equalIn,run_underlying hk]
 have r3:List.range' 0 3=[0,1,2]:=rfl
 rw [Op.equalIn]
 simp only [run_underlying hu,sizeOf,typeInfo,Sem.run_bind]
 by_cases h1:a=a'<;>by_cases h2:b=b'<;>by_cases h3:c=c'<;>simp [r3,hi,hsz,hp,he,h1,h2,h3]
theorem binP_ok {bo:BinOp} {T:TypeId} {t t':Ty} {x:t.den} {y:t'.den} {u v':Value} (h:binP E bo T t x t' y=some (r,ps)) (hp:AllP ps) (hx:m ρ X w (.dat t x) [u]) (hy:m ρ X w (.dat t' y) [v']) (o1 o2:Operand) :
    ∃ z,(do eqGuard bo T o1 o2 u v'; binOp bo T u v':Sem Value).run E.P w=.ok z w/\m ρ X w r [z]:=by
 unfold binP at h
 split at h
 ·split at h
  ·rename_i x1 y1 e1 e2
   cases h
   obtain ⟨⟨el,inf,hu,hk,hi,hsz,hgd⟩,_⟩:=hp
   rw [m_a3 e1 hx,m_a3 e2 hy]
   have h:=a3_equal w hu hk hi hsz x1.1 x1.2.1 x1.2.2 y1.1 y1.2.1 y1.2.2 9998
   have h:(Op.equalIn Op.maxDepth T _ _).run E.P w=_:=h
   exact ⟨.bool _,by simp [eqGuard,binOp,Op.equal,h,hgd],m_bool_of⟩
  ·split at h
   ·rename_i y1 e2 e3
    cases h
    obtain ⟨⟨hgd,heq⟩,_⟩:=hp
    have hwr:∀ cs,t.wrap cs=.agg cs.toArray:=fun cs=>by unfold Ty.wrap; rw [e3]; rfl
    have hy:=castD_elim e2 (fun v a=>m ρ X w (.dat v a) [v']) hy
    obtain ⟨cs,h1,h2⟩:=hx
    obtain ⟨cs',h3,h4⟩:=hy
    have h2:=(List.cons.inj h2).1
    have h4:=(List.cons.inj h4).1
    subst h2
    subst h4
    have h:=heq X w cs cs' x y1 h1 h3
    rw [hwr,hwr] at h ⊢
    exact ⟨.bool _,by simp [eqGuard,binOp,h,hgd],m_bool_of⟩
   ·cases h
 ·split at h
  ·rename_i y1 e2 e3
   cases h
   obtain ⟨⟨hgd,heq⟩,_⟩:=hp
   have hwr:∀ cs,t.wrap cs=.agg cs.toArray:=fun cs=>by unfold Ty.wrap; rw [e3]; rfl
   have hy:=castD_elim e2 (fun v a=>m ρ X w (.dat v a) [v']) hy
   obtain ⟨cs,h1,h2⟩:=hx
   obtain ⟨cs',h3,h4⟩:=hy
   have h2:=(List.cons.inj h2).1
   have h4:=(List.cons.inj h4).1
   subst h2
   subst h4
   have h:=heq X w cs cs' x y1 h1 h3
   rw [hwr,hwr] at h ⊢
   exact ⟨.bool _,by simp [eqGuard,binOp,h,hgd],m_bool_of⟩
  ·cases h
 ·cases h
theorem binA_ok (hE:E.Ok) {bo:BinOp} {T:TypeId} {x y:AV} {u v:Value} (h:binA E an bo T x y=some (r,ps)) (hp:AllP ps) (hx:m ρ X w x [u]) (hy:m ρ X w y [v]) (o1 o2:Operand) :
    ∃ z,(do eqGuard bo T o1 o2 u v; binOp bo T u v:Sem Value).run E.P w=.ok z w/\m ρ X w r [z]:=by
 unfold binA at h
 split at h
 ·obtain ⟨v0,b0,hc,hb,hu⟩:=hx
  have hv:[v]=[.pointer none]:=hy
  have hu:=(List.cons.inj hu).1
  have hv:=(List.cons.inj hv).1
  subst hu hv
  split at h
  ·cases h
   obtain ⟨⟨e,he⟩,_⟩:=hp
   exact ⟨.bool false,ptr_neq_nil he _ _ _ .eql (by simp) o1 o2,rfl⟩
  ·cases h
   obtain ⟨⟨e,he⟩,_⟩:=hp
   exact ⟨.bool true,ptr_neq_nil he _ _ _ .neq (by simp) o1 o2,rfl⟩
  ·cases h
 ·rename_i k p k' q
  obtain ⟨rfl,hu⟩:=m_int hx
  obtain ⟨rfl,hv⟩:=m_int hy
  split at h
  ·cases h
   exact ⟨.int k (shlI k p q),by simp [eqGuard,binOp,Op.shift,Int.not_lt.2 (show (0:Int)<=q from hp.1),shlI],m_int_of (inR_wrap _ _)⟩
  ·cases h
   exact ⟨.int k (shrI k p q),by simp [eqGuard,binOp,Op.shift,Int.not_lt.2 (show (0:Int)<=q from hp.1),shrI],m_int_of (inR_shr _ _ _ hu)⟩
  ·split at h
   ·rename_i e; have:=keq_ty e; subst this; exact binI_ok h hp T o1 o2
   ·cases h
 ·obtain ⟨rfl,hu⟩:=m_str hx
  obtain ⟨rfl,hv⟩:=m_str hy
  exact binS_ok h hp T o1 o2
 ·exact binP_ok h hp hx hy o1 o2
 ·split at h
  ·rename_i ea eb
   obtain rfl:=Nat.eq_of_beq_eq_true ea
   obtain rfl:=Nat.eq_of_beq_eq_true eb
   unfold binZ at h
   split at h
   ·split at h
    ·rename_i e3
     split at h
     ·rename_i e4
      cases h
      have hf:=(hE.fact e3).s
      rw [e4] at hf
      obtain ⟨cs,hr,hu⟩:=hx
      have hv:=(List.cons.inj (show [v]=[.slice none 0 0] from hy)).1
      subst hv
      obtain ⟨ad,cap,rfl,_,_,hn,hl⟩:=hr
      have hu:=(List.cons.inj hu).1
      subst hu
      refine ⟨_,sli_eq_nil hf _ _ _ _ o1 o2,_,rfl,fun hb=>?_⟩
      refine Classical.byContradiction fun hl'=>?_
      obtain ⟨b,off,C,T',f,rfl,_⟩:=hl hl'
      cases hb
     ·cases h
    ·cases h
   ·cases h
  ·cases h
 ·unfold binO at h
  split at h
  ·rename_i e1
   split at h
   ·rename_i e2
    split at h
    ·rename_i e3
     split at h
     ·rename_i e4
      have hf:=(hE.fact e3).s
      rw [e4] at hf
      rw [m_asBo e1 hx,m_asBo e2 hy]
      exact binB_ok h hp T hf o1 o2
     ·cases h
    ·cases h
   ·cases h
  ·cases h
theorem unA_ok {uo:UnOp} {x:AV} {u:Value} (h:unA an uo x=some (r,ps)) (hp:AllP ps) (hx:m ρ X w x [u]):∃ z,(Op.unary uo u).run E.P w=.ok z w/\m ρ X w r [z]:=by
 unfold unA at h
 split at h
 ·split at h
  ·rename_i b e
   cases h
   rw [m_asBo e hx]
   exact ⟨.bool (!b),by simp [Op.unary],m_bool_of⟩
  ·cases h
 ·split at h
  ·rename_i k n
   simp only [Option.some.injEq] at h
   obtain ⟨rfl,hu⟩:=m_int hx
   exact ⟨.int k (k.wrap (-n)),by simp [Op.unary,Op.intArith],wrI_ok h hp⟩
  ·cases h
 ·cases h
theorem pickA_ok {c x y:AV} {t u v:Value} (h:pickA c x y=some (r,ps)) (hp:AllP ps) (hc:m ρ X w c [t]) (hx:m ρ X w x [u]) (hy:m ρ X w y [v]) :
    ∃ b,t=.bool b/\m ρ X w r [if b=true then u else v]:=by
 unfold pickA at h
 split at h
 ·cases h
  have hc:[t]=[.bool true]:=hc
  cases hc
  exact ⟨true,rfl,hx⟩
 ·cases h
  have hc:[t]=[.bool false]:=hc
  cases hc
  exact ⟨false,rfl,hy⟩
 ·rename_i e
  refine ⟨e,m_bool hc,?_⟩
  split at h
  ·have hy:[v]=[.bool false]:=hy
   cases hy
   split at h
   ·rename_i z hz
    cases h
    cases e with
    | false=>rw [if_neg (by simp)]; exact m_bool_of
    | true =>
     rw [if_pos rfl]
     have:m ρ X w (strip x) [u]:=by
      unfold strip
      split
      ·rename_i c' x'
       obtain ⟨v',e',h1,_⟩:=hx
       cases e'
       exact h1 (by simp only [cond,List.map_cons,List.map_nil,AllP] at hp; exact hp.1 trivial)
      ·exact hx
     rw [m_asBo hz this]
     exact m_bool_of
   ·cases h
  ·split at h
   ·have hx:[u]=[.bool true]:=hx
    cases hx
    split at h
    ·rename_i z hz
     cases h
     cases e with
     | true=>rw [if_pos rfl]; exact m_bool_of
     | false =>
      rw [if_neg (by simp)]
      have:m ρ X w (strip y) [v]:=by
       unfold strip
       split
       ·rename_i c' x'
        obtain ⟨v',e',h1,_⟩:=hy
        cases e'
        exact h1 (by simp only [cond,List.map_cons,List.map_nil,AllP] at hp; exact hp.1 trivial)
       ·exact hy
      rw [m_asBo hz this]
      exact m_bool_of
    ·cases h
   ·cases h
 ·cases h
theorem drop_take_len {C:List Value} {off n:Nat} (h:off+n<=C.length):((C.drop off).take n).length=n:=by simp; omega
theorem fstA_cast {t u:Ty} {X:Nat->Prop} {w:World} {cs:List Value} {x:t.den} {y:u.den} (h:castD t u x=some y) (hr:rep t X w cs x):u.size<=t.size/\rep u X w (cs.take u.size) y:=by
 have hr':=castD_elim h (fun u a=>rep u X w cs a) hr
 have ht:=castD_ty h
 rw [<-rep_len hr',List.take_length,rep_len hr',ht]
 exact ⟨Nat.le_refl _,hr'⟩
theorem fstA_ok {u:Ty} {X:Nat->Prop} {w:World}:∀ {t:Ty} {cs:List Value} {x:t.den} {y:u.den},fstA u t x=some y->rep t X w cs x->u.size<=t.size/\rep u X w (cs.take u.size) y
 | .pair t1 t2,cs,p,y,h,hr=>by
  unfold fstA at h
  split at h
  ·rename_i z e
   cases h
   exact fstA_cast e hr
  ·obtain ⟨k1,k2⟩:=fstA_ok h hr.1
   rw [List.take_take,Nat.min_eq_left k1] at k2
   exact ⟨Nat.le_trans k1 (Nat.le_add_right _ _),k2⟩
 | .bool,_,_,_,h,hr=>fstA_cast h hr
 | .int _,_,_,_,h,hr=>fstA_cast h hr
 | .str,_,_,_,h,hr=>fstA_cast h hr
 | .slice _,_,_,_,h,hr=>fstA_cast h hr
 | .one _,_,_,_,h,hr=>fstA_cast h hr
 | .fn,_,_,_,h,hr=>fstA_cast h hr
theorem loadA_ok (hE:E.Ok) (hw:Wd B ρ X ck w) {T:TypeId} {e:TE} (he:E.te T=some e) {x:AV} {u:Value} (h:loadA ck e x=some (r,ps)) (hp:AllP ps) (hx:m ρ X w x [u]) :
    ∃ z,(Instr.loadAt T u).run E.P w=.ok z w/\m ρ X w r [z]:=by
 have hf:=hE.fact he
 unfold loadA at h
 split at h
 ·split at h
  ·rename_i y e1
   cases h
   exact m_load hf (castD_elim e1 (fun t a=>m ρ X w (.elt t a) [u]) hx)
  ·cases h
 ·rename_i c off
  split at h
  ·rename_i T' l hc
   obtain ⟨hL,b,cs,h1,h2,h3,h4⟩:=hw.cs _ (get?_mem hc)
   obtain ⟨v',b',h1',hb',hu⟩:=hx
   rw [h1] at h1'
   cases h1'
   cases hb'
   cases hu
   split at h
   ·rename_i hag
    split at h
    ·rename_i hle
     have hle:=Nat.le_of_ble_eq_true hle
     have hlen:=m_len hL h3
     have hrun:=run_loadVar (P:=E.P) hf (cs:=(cs.toList.drop off).take e.ty.size) (off:=off) h2 rfl (drop_take_len (by omega))
     have hm:m ρ X w (takeA (dropA l off) e.ty.size) ((cs.toList.drop off).take e.ty.size):=by
      refine m_take (isL_drop hL) ?_ (m_drop hL (by omega) h3)
      have:=m_len (isL_drop (n:=off) hL) (m_drop hL (by omega) h3)
      rw [<-this,List.length_drop]; omega
     split at h
     ·rename_i dd rr hd
      cases h
      refine ⟨_,by simpa [Instr.loadAt,Instr.sureAddr] using hrun,(cs.toList.drop off).take e.ty.size,?_,rfl⟩
      have:=(asDats_ok hw.none (fun b h=>h) (fun x hx=>by cases hx) hd hm).1
      rwa [List.take_take,Nat.min_self] at this
     ·cases h
      refine ⟨_,by simpa [Instr.loadAt,Instr.sureAddr] using hrun,(cs.toList.drop off).take e.ty.size,?_,hm,?_⟩
      ·simp [Ty.wrap,hag]
      ·intro u hu
       exact h4 u (List.mem_of_mem_drop (List.mem_of_mem_take hu))
    ·cases h
   ·rename_i hag
    split at h
    ·rename_i y hn
     cases h
     obtain ⟨v,hv,hm⟩:=m_nth hn h3
     have hs:=size1 (by simpa using hag)
     have hrun:=run_loadVar (P:=E.P) hf (cs:=[v]) (off:=off) h2 (by rw [hs]; rw [List.take_one,List.head?_drop,hv]; rfl) (by rw [hs]; rfl)
     refine ⟨v,?_,hm⟩
     simpa [Instr.loadAt,Instr.sureAddr,Ty.wrap,hag] using hrun
    ·cases h
  ·cases h
 ·rename_i c i sz
  split at h
  ·rename_i T' t l hc
   split at h
   ·rename_i y e1
    split at h
    ·rename_i e2
     cases h
     have e2:=Nat.eq_of_beq_eq_true e2
     subst e2
     obtain ⟨v,xs,h0,h1,h2,h3⟩:=hw.cs _ (get?_mem hc)
     obtain ⟨v',b,h0',hb,hu⟩:=hx
     rw [h0] at h0'
     cases h0'
     cases hu
     have hi:=hp.1
     obtain ⟨h4,h5|⟨g,cap,cur,h6,_,h7,h8,h9,h10,h11⟩⟩:=h1
     ·omega
     ·rw [h6] at hb
      cases hb
      have hr:=h3 i (l.getD i (zd t)) (by simp [hi])
      have hfit:i*t.size+t.size<=l.length*t.size:=by
       rw [<-Nat.succ_mul]; exact Nat.mul_le_mul_right _ hi
      obtain ⟨k1,hr'⟩:=fstA_ok e1 hr
      have hcs:(cur.toList.drop (i*t.size)).take e.ty.size=((xs.drop (i*t.size)).take t.size).take e.ty.size:=by
       rw [<-h11,List.drop_take,List.take_take,List.take_take,Nat.min_eq_left (by omega),Nat.min_eq_left k1]
      have hrun:=run_loadVar (P:=E.P) hf (off:=i*t.size) h7 hcs (rep_len hr')
      exact ⟨_,by simpa [Instr.loadAt,Instr.sureAddr] using hrun,_,hr',rfl⟩
    ·cases h
   ·cases h
  ·rename_i T1 o d hc
   split at h
   ·rename_i T' t ll hb
    split at h
    ·rename_i t0 ety
     split at h
     ·rename_i q
      have q:=Nat.eq_of_beq_eq_true q
      subst q
      cases h
      have hi:=hp.1
      obtain ⟨v,xs,us,h0,hus,h1,h2,h3⟩:=hw.cs _ (get?_mem hc)
      obtain ⟨us2,hus2,hlen,_⟩:=hw.cs _ (get?_mem hb)
      rw [hus] at hus2
      cases hus2
      obtain ⟨v',b,h0',hbk,hu⟩:=hx
      rw [h0] at h0'
      cases h0'
      cases hu
      have hil:i<us.toList.length:=by omega
      have hxi:=h3 i hil (by simp)
      rw [List.getElem?_eq_getElem hil] at hxi
      obtain ⟨h4,⟨_,h5⟩|⟨g,cap,cur,h6,_,h7,h8,h9,h10,h11⟩⟩:=h1
      ·omega
      ·rw [h6] at hbk
       cases hbk
       have hci:cur.toList[i]?=some us.toList[i]:=by
        rw [<-h11,List.getElem?_take] at hxi
        split at hxi
        ·exact hxi
        ·cases hxi
       have hil2:i<cur.toList.length:=by
        rcases Nat.lt_or_ge i cur.toList.length with h'|h'
        ·exact h'
        ·rw [List.getElem?_eq_none h'] at hci; cases hci
       have es:e.ty.size=1:=by rw [ety]; rfl
       have hrun:=run_loadVar (P:=E.P) hf (off:=i*1) h7 (cs:=[us.toList[i]]) (by
        rw [es,Nat.mul_one,List.drop_eq_getElem_cons hil2]
        rw [List.getElem?_eq_getElem hil2] at hci
        rw [Option.some.inj hci]
        rfl) (by rw [es]; rfl)
       have hwr:e.ty.wrap [us.toList[i]]=us.toList[i]:=by rw [ety]; rfl
       rw [hwr] at hrun
       exact ⟨_,by simpa [Instr.loadAt,Instr.sureAddr] using hrun,us,_,hus,List.getElem?_eq_getElem hil,h2 _ (List.mem_of_getElem? hxi),rfl⟩
     ·cases h
    ·cases h
   ·cases h
  ·cases h
 ·rename_i d k i sz
  split at h
  ·rename_i T' t ll hb
   split at h
   ·rename_i y e1
    split at h
    ·rename_i e2
     cases h
     have e2:=Nat.eq_of_beq_eq_true e2
     subst e2
     obtain ⟨us,v,b,hus,hk,hbk,hu⟩:=hx
     cases hu
     have hcm:=hw.cs _ (get?_mem hb)
     obtain ⟨hkl,_⟩:=hdr_dat hcm (Y:=fun _=>False) (fun b h=>h.elim) (fun b _ h=>h) hus hk
     obtain ⟨us2,hus2,hlen,h3,_⟩:=hcm
     rw [hus] at hus2
     cases hus2
     have hl:ll[k]?=some (ll.getD k []):=by rw [List.getD_eq_getElem?_getD,List.getElem?_eq_getElem hkl]; rfl
     obtain ⟨xs,h1,h2,h3⟩:=h3 k _ _ hk hl
     have hi:=hp.1
     obtain ⟨h4,h5|⟨g,cap,cur,h6,_,h7,h8,h9,h10,h11⟩⟩:=h1
     ·omega
     ·rw [h6] at hbk
      cases hbk
      have ht:=castD_ty e1
      have hr:=h3 i ((ll.getD k []).getD i (zd t)) (by rw [List.getD_eq_getElem?_getD (l:=ll.getD k []),List.getElem?_eq_getElem hi]; rfl)
      have hfit:i*t.size+t.size<=(ll.getD k []).length*t.size:=by
       rw [<-Nat.succ_mul]; exact Nat.mul_le_mul_right _ hi
      have hcs:(cur.toList.drop (i*t.size)).take t.size=(xs.drop (i*t.size)).take t.size:=by
       rw [<-h11,List.drop_take,List.take_take,Nat.min_eq_left (by omega)]
      have hr':rep e.ty X w ((xs.drop (i*t.size)).take t.size) y:=castD_elim e1 (fun u a=>rep u X w ((xs.drop (i*t.size)).take t.size) a) hr
      have hrun:=run_loadVar (P:=E.P) hf (off:=i*t.size) h7 (by rw [<-ht]; exact hcs) (rep_len hr')
      exact ⟨_,by simpa [Instr.loadAt,Instr.sureAddr] using hrun,_,hr',rfl⟩
    ·cases h
   ·cases h
  ·cases h
 ·cases h
theorem fieldV_ok (hE:E.Ok) {T:TypeId} {e:TE} (he:E.te T=some e) {f:Nat} {x:AV} {u:Value} (h:fieldV E T e f x=some (r,ps)) (hp:AllP ps) (hx:m ρ X w x [u]) :
    ∃ z,(Instr.field T u f).run E.P w=.ok z w/\m ρ X w r [z]:=by
 have hf:=hE.fact he
 unfold fieldV at h
 split at h
 ·split at h
  ·rename_i y e1
   split at h
   ·rename_i o t g hfl
    split at h
    ·rename_i e2 e3
     cases h
     obtain ⟨⟨fs,F,hu,hF,hag⟩,_⟩:=hp
     have hx:=castD_elim e1 (fun t a=>m ρ X w (.dat t a) [u]) hx
     obtain ⟨cs,h1,h2⟩:=hx
     have h2:=(List.cons.inj h2).1
     subst h2
     obtain ⟨hle,hrep⟩:=fld_spec hfl
     have hr:=hrep h1
     have hall:=List.all_eq_true.1 hf.f f (List.mem_range.2 (Nat.le_of_ble_eq_true e2))
     unfold fieldOk at hall
     rw [hfl,hu] at hall
     simp only [hF,Bool.and_eq_true,beq_iff_eq] at hall
     obtain ⟨hoff,hsz⟩:=hall
     cases hi:E.P.info? F.type with
     | none=>rw [hi] at hsz; cases hsz
     | some i =>
      rw [hi] at hsz
      simp only [Bool.and_eq_true,bne_iff_ne,ne_eq,beq_iff_eq] at hsz
      have hw:e.ty.wrap cs=.agg cs.toArray:=by unfold Ty.wrap; rw [e3]; rfl
      have hcl:=rep_len h1
      have hin:∃ d,E.P.underlying F.type=some d/\aggD d=t.isAgg:=by
       cases hd:E.P.underlying F.type with
       | none=>rw [hd] at hag; cases hag
       | some d=>rw [hd] at hag; exact ⟨d,rfl,Option.some.inj hag⟩
      obtain ⟨d,hd,hda⟩:=hin
      have hisag:(isAgg F.type).run E.P w=.ok t.isAgg w:=by
       rw [<-hda]
       unfold isAgg
       simp only [Sem.run_bind,run_underlying hd]
       cases d<;>rfl
      have hpart:(part F.type cs.toArray o).run E.P w=.ok (t.wrap ((cs.drop o).take t.size)) w:=by
       unfold part
       simp only [Sem.run_bind,hisag]
       cases hag2:t.isAgg with
       | true =>
        simp [sizeOf,typeInfo,hi,hsz.2,Ty.wrap,hag2,Result.andThen]
       | false =>
        have hs1:=size1 hag2
        have hl:=rep_len hr
        rw [List.length_take,List.length_drop,hs1] at hl
        have hlt:o<cs.length:=by omega
        have e1:t.wrap ((cs.drop o).take t.size)=cs[o]:=by
         unfold Ty.wrap
         rw [hag2,hs1,List.drop_eq_getElem_cons hlt]
         rfl
        rw [e1]
        simp [hlt,Result.andThen]
      refine ⟨_,?_,_,hr,rfl⟩
      rw [hw]
      unfold Instr.field
      simp [run_underlying hu,hF,asAgg,hoff,hpart]
    ·cases h
   ·cases h
  ·cases h
 ·cases h
theorem fieldA_ok (hE:E.Ok) {T:TypeId} {e:TE} (he:E.te T=some e) {f:Nat} {x:AV} {u:Value} (h:fieldA e f x=some (r,ps)) (hx:m ρ X w x [u]) :
    ∃ z,(Instr.fieldAt T u f).run E.P w=.ok z w/\m ρ X w r [z]:=by
 have hf:=hE.fact he
 unfold fieldA at h
 split at h
 ·split at h
  ·rename_i y e1
   split at h
   ·rename_i hfl
    split at h
    ·rename_i e2
     cases h
     exact m_field hf hfl (Nat.le_of_ble_eq_true e2) (castD_elim e1 (fun t a=>m ρ X w (.elt t a) [u]) hx)
    ·cases h
   ·cases h
  ·cases h
 ·split at h
  ·rename_i hfl
   split at h
   ·rename_i e2
    cases h
    obtain ⟨v,b,h0,hb,hu⟩:=hx
    cases hu
    exact ⟨_,run_fieldAt hf hfl (Nat.le_of_ble_eq_true e2) _ _,v,b,h0,hb,rfl⟩
   ·cases h
  ·cases h
 ·split at h
  ·rename_i o q hfl
   split at h
   ·rename_i e1 e2
    cases h
    have e1:=Nat.eq_of_beq_eq_true e1
    subst e1
    obtain ⟨v,b,h0,hb,hu⟩:=hx
    cases hu
    exact ⟨_,run_fieldAt hf hfl (Nat.le_of_ble_eq_true e2) _ _,v,b,h0,hb,rfl⟩
   ·rename_i e1 e2
    cases h
    obtain ⟨v,b,h0,hb,hu⟩:=hx
    cases hu
    exact ⟨_,run_fieldAt hf hfl (Nat.le_of_ble_eq_true e2) _ _,v,b,h0,hb,rfl⟩
   ·cases h
  ·cases h
 ·cases h
theorem und_slice (hE:E.Ok) {T:TypeId} {e:TE} {t:Ty} (he:E.te T=some e) (ht:e.ty=.slice t):E.P.underlying T=some (.slice e.elem):=by
 have:=(hE.fact he).s; rw [ht] at this; exact this
theorem und_str (hE:E.Ok) {T:TypeId} {e:TE} (he:E.te T=some e) (ht:e.ty=.str):E.P.underlying T=some .string:=by
 have:=(hE.fact he).s; rw [ht] at this; exact this
theorem elemOf_ok {T:TypeId} {u:Ty} (h:elemOf E T=some u):∃ e e',E.te T=some e/\e.ty=.slice u/\E.te e.elem=some e'/\e'.ty=u:=by
 unfold elemOf at h
 split at h
 ·rename_i e he
  split at h
  ·rename_i t ht
   split at h
   ·rename_i e' he'
    split at h
    ·rename_i q
     cases h
     exact ⟨e,e',he,ht,he',teq_ty q⟩
    ·cases h
   ·cases h
  ·cases h
 ·cases h
theorem in_range {n:Int} {k:Nat} (h:0<=n/\n<(k:Int)):n.toNat<k:=by omega
theorem indexA_ok (hE:E.Ok) (hw:Wd B ρ X ck w) {T:TypeId} {x i:AV} {u v:Value} (h:indexA E ck T x i=some (r,ps)) (hp:AllP ps) (hx:m ρ X w x [u]) (hy:m ρ X w i [v]) :
    ∃ z,(Instr.indexAt T u v).run E.P w=.ok z w/\m ρ X w r [z]:=by
 unfold indexA at h
 split at h
 ·rename_i k n
  obtain ⟨rfl,hv⟩:=m_int hy
  split at h
  ·rename_i uu hel
   obtain ⟨e,e',he,ht,he',ht'⟩:=elemOf_ok hel
   split at h
   ·rename_i c
    split at h
    ·rename_i T' t l hc
     split at h
     ·rename_i q
      cases h
      have q:=teq_ty q
      have h0:(0:Int)<=n/\(n:Int)<(l.length:Int):=hp.1
      obtain ⟨v0,xs,hv0,h1,h2,h3⟩:=hw.cs _ (get?_mem hc)
      obtain ⟨v1,hv1,_,hx⟩:=hx
      rw [hv0] at hv1
      cases hv1
      cases hx
      obtain ⟨h4,h5|⟨g,cap,cur,h6,_,h7,h8,h9,h10,h11⟩⟩:=h1
      ·have:=in_range h0; omega
      ·have hsz:=(hE.fact he').run_size (w:=w)
       rw [ht',<-q] at hsz
       refine ⟨.pointer (some ⟨g,n.toNat*t.size,none⟩),?_,_,g,hv0,by rw [h6]; rfl,rfl⟩
       rw [h6]
       simp [Instr.indexAt,asIntOf,run_underlying (und_slice hE he ht),h0.1,h0.2,hsz,Addr.add_lit]
     ·cases h
    ·cases h
   ·rename_i c k
    split at h
    ·rename_i q
     cases h
     have q:=Nat.eq_of_beq_eq_true q
     have h0:(0:Int)<=n/\(n:Int)<(k:Int):=hp.1
     obtain ⟨v0,hv0,hsl,hx⟩:=hx
     cases hx
     rcases hsl with ⟨_,h5⟩|⟨g,cap,h6⟩
     ·have:=in_range h0; omega
     ·have hsz:=(hE.fact he').run_size (w:=w)
      rw [ht',q] at hsz
      refine ⟨.pointer (some ⟨g,n.toNat*1,none⟩),?_,_,g,hv0,by rw [h6]; rfl,rfl⟩
      rw [h6]
      simp [Instr.indexAt,asIntOf,run_underlying (und_slice hE he ht),h0.1,h0.2,hsz,Addr.add_lit]
    ·cases h
   ·rename_i d k
    split at h
    ·rename_i T' t ll hb
     split at h
     ·rename_i q
      cases h
      have q:=teq_ty q
      have h0:(0:Int)<=n/\(n:Int)<((ll.getD k []).length:Int):=hp.1
      obtain ⟨us,v1,hus,hk,_,hx⟩:=hx
      cases hx
      have hcm:=hw.cs _ (get?_mem hb)
      obtain ⟨hkl,_⟩:=hdr_dat hcm (Y:=fun _=>False) (fun b h=>h.elim) (fun b _ h=>h) hus hk
      obtain ⟨us2,hus2,hlen,h3,_⟩:=hcm
      rw [hus] at hus2
      cases hus2
      have hl:ll[k]?=some (ll.getD k []):=by rw [List.getD_eq_getElem?_getD,List.getElem?_eq_getElem hkl]; rfl
      obtain ⟨xs,h1,_⟩:=h3 k _ _ hk hl
      generalize ll.getD k []=l at h0 h1 ⊢
      obtain ⟨h4,⟨_,h5⟩|⟨g,cap,cur,h6,_,h7,h8,h9,h10,h11⟩⟩:=h1
      ·have:=in_range h0; omega
      ·have hsz:=(hE.fact he').run_size (w:=w)
       rw [ht',<-q] at hsz
       refine ⟨.pointer (some ⟨g,n.toNat*t.size,none⟩),?_,us,_,g,hus,hk,by rw [h6]; rfl,rfl⟩
       rw [h6]
       simp [Instr.indexAt,asIntOf,run_underlying (und_slice hE he ht),h0.1,h0.2,hsz,Addr.add_lit]
     ·cases h
    ·cases h
   ·split at h
    ·rename_i l hl
     cases h
     have h0:=hp.1
     exact run_indexAt (hE.fact he) ht (hE.fact he') (by rw [ht']) (as1_ok hw.none (fun b h=>h) (fun x hx=>by cases hx) hl hx) h0.1 h0.2
    ·cases h
  ·split at h
   ·rename_i c off
    split at h
    ·rename_i e he
     split at h
     ·cases h
      obtain ⟨h0,⟨el,inf,hu,_,hi,hsz,_⟩,_⟩:=hp
      obtain ⟨v0,b0,hc,hb,hx⟩:=hx
      cases hx
      refine ⟨.pointer (some ⟨b0,off+n.toNat,none⟩),?_,v0,b0,hc,hb,rfl⟩
      have h1:(n:Int)<3:=h0.2
      simp [Instr.indexAt,asIntOf,run_underlying hu,sizeOf,typeInfo,hi,h0.1,h1,hsz,Addr.add_lit,Instr.sureAddr]
     ·cases h
    ·cases h
   ·cases h
 ·cases h
theorem bsize (s:List UInt8):(ByteArray.mk s.toArray).size=s.length:=by show s.toArray.size=_; simp
theorem bget (s:List UInt8) (n:Nat) (h:n<s.length):(ByteArray.mk s.toArray)[n]?=some (s.getD n 0):=by
 rw [getElem?_pos (ByteArray.mk s.toArray) n (by rw [bsize]; exact h)]
 simp [ByteArray.getElem_eq_getElem_data,h]
theorem strIx_ok (hE:E.Ok) {T:TypeId} {x i:AV} {u v:Value} (h:strIx E T x i=some (r,ps)) (hp:AllP ps) (hx:m ρ X w x [u]) (hy:m ρ X w i [v]) :
    ∃ z,(Instr.index T u v).run E.P w=.ok z w/\m ρ X w r [z]:=by
 unfold strIx at h
 split at h
 ·rename_i s k n e he
  split at h
  ·rename_i hc
   cases h
   obtain ⟨rfl,hv⟩:=m_int hy
   obtain ⟨rfl,hs⟩:=m_str hx
   have h0:(0:Int)<=n/\(n:Int)<(s.length:Int):=hp.1
   have hlt:n.toNat<s.length:=in_range h0
   refine ⟨.int .u8 (strAt s n),?_,m_int_of ?_⟩
   ·have hg:=bget s n.toNat hlt
    simp [Instr.index,asIntOf,run_underlying (und_str hE he hc),h0.1,hg,strAt]
   ·unfold strAt
    simp only [inR,lo,Gx.hi]
    have h9:=(s.getD n.toNat 0).toNat_lt
    omega
  ·cases h
 ·cases h
theorem slice_form {t:Ty} {l:List t.den} {u:Value} {Y:Nat->Prop} (h:m ρ Y w (.dat (.slice t) l) [u]):∃ b cap,u=.slice b l.length cap/\l.length<=maxLen:=by
 obtain ⟨cs,⟨b,cap,rfl,h2,h3,h4,h5⟩,hv⟩:=h
 simp [Ty.wrap,Ty.isAgg] at hv
 exact ⟨b,cap,hv,by omega⟩
theorem lenAV_ok (hE:E.Ok) (hw:Wd B ρ X ck w) {T ty:TypeId} {x:AV} {u:Value} (h:lenAV E ck T x=some (r,ps)) (hx:m ρ X w x [u]) :
    ∃ z,(Builtin.len_ #[T] ty #[u]).run E.P w=.ok z w/\m ρ X w r [z]:=by
 unfold lenAV at h
 split at h
 ·rename_i e he
  split at h
  ·rename_i hc
   split at h
   ·rename_i s
    cases h
    obtain ⟨rfl,hs⟩:=m_str hx
    refine ⟨goInt s.length,by simp [Builtin.len_,run_underlying (und_str hE he hc),bsize],m_int_of ?_⟩
    simp only [maxLen] at hs
    simp only [inR,lo,hi]; omega
   ·cases h
  ·rename_i t hc
   split at h
   ·rename_i l hl
    cases h
    obtain ⟨b,cap,rfl,hn⟩:=slice_form (as1_ok (Y:=fun _=>False) hw (fun b h=>h.elim) (fun x _ b _ h=>h.elim) hl hx)
    refine ⟨goInt l.length,by simp [Builtin.len_,run_underlying (und_slice hE he hc)],m_int_of ?_⟩
    simp only [maxLen] at hn
    simp only [inR,lo,hi]; omega
   ·cases h
  ·cases h
 ·cases h
theorem optI_ok (hl:∀ x y,look x=some y->m ρ X w y [a.eval x]) {o:Option Operand} {n:Option Int} (h:optI look o=some n) :
    (n=none/\o.map a.eval=none)∨∃ k i,n=some i/\o.map a.eval=some (.int k i):=by
 cases o with
 | none=>cases h; exact .inl ⟨rfl,rfl⟩
 | some x =>
  simp only [optI] at h
  split at h
  ·rename_i k i e
   cases h
   exact .inr ⟨k,i,rfl,by rw [Option.map_some,(m_int (hl _ _ e)).1]⟩
  ·cases h
theorem sB {P:Program} {k:IntKind} {i:Int} {y:Nat} {code:BoundsCode} (h0:0<=i) (h1:i<=y):(Instr.sliceBound (.int k i) y code).run P w=.ok i.toNat w:=run_sliceBound w k i y code h0 h1
theorem run_bounds {P:Program} {b:Bool} {len cap:Nat} {lo hi mx:Option Int} {l h c:Option Value} (hc:len<=cap) (hp:AllP (cutP len lo hi mx))
    (hlo:(lo=none/\l=none)∨∃ k i,lo=some i/\l=some (.int k i)) (hhi:(hi=none/\h=none)∨∃ k i,hi=some i/\h=some (.int k i)) (hmx:(mx=none/\c=none)∨∃ k i,mx=some i/\c=some (.int k i)) :
    ∃ L H M:Nat,(Instr.sliceBounds b len cap l h c).run P w=.ok (L,H,M) w/\L<=H/\H<=len/\H<=M/\M<=cap/\(∀ {α:Type} (x:List α),x.length=len->cutL x lo hi=(x.take H).drop L):=by
 rcases hlo with ⟨rfl,rfl⟩|⟨kl,i,rfl,rfl⟩<;>rcases hhi with ⟨rfl,rfl⟩|⟨kh,j,rfl,rfl⟩<;>rcases hmx with ⟨rfl,rfl⟩|⟨km,n,rfl,rfl⟩<;>simp only [cutP,AllP,and_true] at hp
 ·refine ⟨0,len,cap,by simp [Instr.sliceBounds],by omega,by omega,by omega,by omega,fun x hx=>?_⟩
  simp [cutL,<-hx]
 ·refine ⟨0,j.toNat,cap,?_,by omega,by omega,by omega,by omega,fun x hx=>?_⟩
  ·simp [Instr.sliceBounds,sB hp.1 (show j<=(cap:Int) by omega)]
  ·simp [cutL]
 ·refine ⟨0,j.toNat,n.toNat,?_,by omega,by omega,by omega,by omega,fun x hx=>?_⟩
  ·simp [Instr.sliceBounds,sB (show 0<=n by omega) (show n<=(cap:Int) by omega),sB hp.1 (show j<=((n.toNat:Nat):Int) by omega)]
  ·simp [cutL]
 ·refine ⟨i.toNat,len,cap,?_,by omega,by omega,by omega,by omega,fun x hx=>?_⟩
  ·simp [Instr.sliceBounds,sB hp.1 (show i<=(len:Int) by omega)]
  ·simp [cutL,<-hx]
 ·refine ⟨i.toNat,j.toNat,cap,?_,by omega,by omega,by omega,by omega,fun x hx=>?_⟩
  ·simp [Instr.sliceBounds,sB (show 0<=j by omega) (show j<=(cap:Int) by omega),sB hp.1 (show i<=((j.toNat:Nat):Int) by omega)]
  ·simp [cutL]
 ·refine ⟨i.toNat,j.toNat,n.toNat,?_,by omega,by omega,by omega,by omega,fun x hx=>?_⟩
  ·simp [Instr.sliceBounds,sB (show 0<=n by omega) (show n<=(cap:Int) by omega),sB (show 0<=j by omega) (show j<=((n.toNat:Nat):Int) by omega),sB hp.1 (show i<=((j.toNat:Nat):Int) by omega)]
  ·simp [cutL]
theorem tailA_ok (hE:E.Ok) (hw:Wd B ρ X ck w) (hl:∀ x y,look x=some y->m ρ X w y [a.eval x]) {T:TypeId} {c:Nat} {u:Value} {lo hi mx:Option Operand} (h:tailA E look ck T c lo hi mx=some (r,ps)) (hp:AllP ps) (hx:m ρ X w (.own c) [u]) :
    ∃ z,(Instr.sliceAt T u (lo.map a.eval) (hi.map a.eval) (mx.map a.eval)).run E.P w=.ok z w/\m ρ X w r [z]:=by
 unfold tailA at h
 split at h
 ·rename_i i e1
  have o1:=optI_ok hl e1
  split at h
  ·rename_i t hel
   obtain ⟨e,e',he,hc1,he',hc2⟩:=elemOf_ok hel
   split at h
   ·rename_i T' t' l hg
    split at h
    ·rename_i ht hs
     have hs:=Nat.eq_of_beq_eq_true hs
     cases h
     obtain ⟨v,hv,hv1,hv2⟩:=hx
     have hv2:=(List.cons.inj hv2).1
     subst hv2
     obtain ⟨v2,xs,g1,g2,g3,g4⟩:=hw.cs _ (get?_mem hg)
     rw [hv] at g1
     cases g1
     have hu:=und_slice hE he hc1
     have hsz:=(hE.fact he').run_size (w:=w)
     rw [hc2,hs] at hsz
     have hp':AllP (cutP l.length (some i) none none):=by simpa [cutP] using hp
     obtain ⟨q5,⟨q1,q2⟩|⟨g,cap,cur,q1,_,_,q3,_⟩⟩:=g2
     ·subst q1
      rw [q2] at hp'
      obtain ⟨L,H,M,hr,r1,r2,r3,r4,r5⟩:=run_bounds (P:=E.P) (w:=w) (b:=true) (Nat.le_refl 0) hp' o1 (.inl ⟨rfl,rfl⟩) (.inl ⟨rfl,rfl⟩)
      refine ⟨.slice none 0 0,?_,_,_,hv,.inl ⟨rfl,rfl⟩,rfl⟩
      have hL:L=0:=by omega
      have hH:H=0:=by omega
      have hM:M=0:=by omega
      subst hL hH hM
      simp only [Option.map_none]
      simp [Instr.sliceAt,Instr.slice,run_underlying hu,hr,hsz]
     ·subst q1
      have h0:=hp.1.1
      have h1:=hp.1.2
      refine ⟨.slice (if cap=i.toNat then some ⟨g,0,none⟩ else some ⟨g,i.toNat,none⟩) (l.length-i.toNat) (cap-i.toNat),?_,_,_,hv,.inr ⟨g,l.length,cap,if cap=i.toNat then 0 else i.toNat,rfl,?_,fun hlt=>?_⟩,rfl⟩
      ·obtain ⟨k,j,ej,eo⟩:∃ k j,some i=some j/\lo.map a.eval=some (.int k j):=by
         rcases o1 with ⟨h,_⟩|h
         ·cases h
         ·exact h
       cases ej
       rw [eo]
       simp only [Option.map_none]
       simp [Instr.sliceAt,Instr.slice,Instr.sliceBounds,sB h0 h1,run_underlying hu,hsz,Addr.add_lit]
      ·split<;>rfl
      ·rw [if_neg (by omega)]
    ·cases h
   ·cases h
  ·cases h
 ·cases h
theorem sliceA_ok (hE:E.Ok) (hw:Wd B ρ X ck w) (hl:∀ x y,look x=some y->m ρ X w y [a.eval x]) {T:TypeId} {x:AV} {u:Value} {lo hi mx:Option Operand} (h:sliceA E look T x lo hi mx=some (r,ps)) (hp:AllP ps) (hx:m ρ X w x [u]) :
    ∃ z,(Instr.sliceAt T u (lo.map a.eval) (hi.map a.eval) (mx.map a.eval)).run E.P w=.ok z w/\m ρ X w r [z]:=by
 unfold sliceA at h
 split at h
 ·rename_i lo' hi' mx' e1 e2 e3
  have o1:=optI_ok hl e1
  have o2:=optI_ok hl e2
  have o3:=optI_ok hl e3
  split at h
  ·rename_i s
   split at h
   ·split at h
    ·rename_i e he
     split at h
     ·rename_i hc
      cases h
      obtain ⟨rfl,hs⟩:=m_str hx
      have o3':mx.map a.eval=none:=by
       rcases o3 with ⟨_,h⟩|⟨k,i,h,_⟩
       ·exact h
       ·cases h
      obtain ⟨L,H,M,hr,g1,g2,g3,g4,g5⟩:=run_bounds (P:=E.P) (w:=w) (b:=false) (Nat.le_refl s.length) hp o1 o2 (.inl ⟨rfl,rfl⟩)
      have hu:=und_str hE he hc
      have hcut:=g5 s rfl
      have e:(ByteArray.mk s.toArray).extract L H=⟨(cutL s lo' hi').toArray⟩:=by
       rw [hcut]
       apply ByteArray.ext
       simp [List.drop_take]
      refine ⟨.string ⟨(cutL s lo' hi').toArray⟩,?_,m_str_of ?_⟩
      ·rw [<-e,o3']
       simp [Instr.sliceAt,Instr.slice,run_underlying hu,bsize,hr]
      ·rw [hcut]; simp; omega
     ·cases h
    ·cases h
   ·cases h
  ·split at h
   ·rename_i t hel
    obtain ⟨e,e',he,hc1,he',hc2⟩:=elemOf_ok hel
    split at h
    ·rename_i l hl'
     cases h
     obtain ⟨cs,⟨b,cap,rfl,h2,h3,h4,h5⟩,hv⟩:=as1_ok hw.none (fun b h=>h) (fun x hx=>by cases hx) hl' hx
     simp [Ty.wrap,Ty.isAgg] at hv
     subst hv
     obtain ⟨L,H,M,hr,g1,g2,g3,g4,g5⟩:=run_bounds (P:=E.P) (w:=w) (b:=true) h2 hp o1 o2 o3
     have hu:=und_slice hE he hc1
     have hsz:=(hE.fact he').run_size (w:=w)
     rw [hc2] at hsz
     have hcut:=g5 l rfl
     have hlen:(cutL l lo' hi').length=H-L:=by rw [hcut]; simp; omega
     refine ⟨.slice (if M=L then b else b.map (·.add (L*t.size))) (H-L) (M-L),?_,_,⟨_,M-L,by rw [hlen],by rw [hlen]; omega,by omega,fun hn=>?_,fun hne=>?_⟩,rfl⟩
     ·simp [Instr.sliceAt,Instr.slice,run_underlying hu,hr,hsz]
     ·have:b=none:=by
        split at hn
        ·exact hn
        ·simpa using hn
      have:=h4 this
      omega
     ·have hLH:L<H:=by
        rcases Nat.lt_or_ge L H with h|h
        ·exact h
        ·exact absurd (List.eq_nil_of_length_eq_zero (by rw [hlen]; omega)) hne
      obtain ⟨b',off,C,T',f,rfl,q1,q2,q3⟩:=h5 (by intro e; rw [e] at g2; simp at g2; omega)
      rw [if_neg (by omega)]
      refine ⟨b',off+L*t.size,C,T',f,by simp [Addr.add_lit],q1,q2,fun i x hi=>?_⟩
      have:l[L+i]?=some x:=by
       rw [hcut,List.getElem?_drop] at hi
       rw [List.getElem?_take] at hi
       split at hi
       ·exact hi
       ·cases hi
      have:=q3 _ _ this
      rwa [show off+(L+i)*t.size=off+L*t.size+i*t.size by rw [Nat.add_mul]; omega] at this
    ·cases h
   ·cases h
 ·cases h
theorem isU8_ok {u:Ty} (h:isU8 u=true):u=.int .u8:=by
 unfold isU8 at h
 split at h
 ·rfl
 ·cases h
theorem elem_u8 (hE:E.Ok) {T:TypeId} {u:Ty} (h:elemOf E T=some u) (hu:isU8 u=true):∃ e,E.P.underlying T=some (.slice e)/\E.P.underlying e=some (.int .u8):=by
 obtain ⟨e,e',h1,h2,h3,h4⟩:=elemOf_ok h
 have hu:=isU8_ok hu
 subst hu
 refine ⟨e.elem,und_slice hE h1 h2,?_⟩
 have:=(hE.fact h3).s
 rw [h4] at this
 exact this
theorem convA_ok (hE:E.Ok) (hw:Wd B ρ X ck w) {S D:TypeId} {x:AV} {u:Value} (h:convA E ck S D x an=some (r,ps)) (hp:AllP ps) (hx:m ρ X w x [u]) (hS:∃ s,E.P.underlying S=some s) :
    ∃ z w',(convert S D u).run E.P w=.ok z w'/\m ρ X w' r [z]/\Below w.heap.size w w':=by
 unfold convA at h
 split at h
 ·rename_i k n
  split at h
  ·rename_i e he
   obtain ⟨rfl,hn⟩:=m_int hx
   split at h
   ·rename_i k' hk
    have hu:E.P.underlying D=some (.int k'):=by have:=(hE.fact he).s; rw [hk] at this; exact this
    obtain ⟨s,hs⟩:=hS
    simp only [Option.some.injEq] at h
    exact ⟨_,w,by simp [convert,run_underlying hu,run_underlying hs,Conv.intToInt],wrI_ok h hp,Below.refl _ _⟩
   ·cases h
  ·cases h
 ·rename_i s
  split at h
  ·rename_i es hes
   split at h
   ·rename_i hty
    split at h
    ·rename_i u' hu'
     split at h
     ·rename_i h8
      cases h
      obtain ⟨rfl,hl⟩:=m_str hx
      obtain ⟨e,he1,he2⟩:=elem_u8 hE hu' h8
      have hS2:E.P.underlying S=some .string:=und_str hE hes hty
      have hr:=run_bytes_of_string (P:=E.P) w S D e ⟨s.toArray⟩ hS2 he1 he2
      have hsz:(⟨s.toArray⟩:ByteArray).size=s.length:=by show s.toArray.size=_; simp
      rw [hsz] at hr
      have hcap:=grownCap_le_maxLen w s.length 0 e hl
      have hge:=grownCap_ge w s.length 0 e
      generalize grownCap w s.length 0 e=cap at *
      have hlen:(bytesI s).length=s.length:=List.length_map ..
      refine ⟨_,_,hr,⟨[.slice (some ⟨w.heap.size,0,none⟩) s.length cap],⟨some ⟨w.heap.size,0,none⟩,cap,by rw [hlen],by rw [hlen]; exact hge,hcap,(fun h=>by cases h),fun hne=>⟨w.heap.size,0,_,e,_,rfl,fun hx=>by have:=hw.lt _ hx; omega,heap_alloc_new w.drew _,fun i x hi=>?_⟩⟩,rfl⟩,(Below.refl _ _).drew.alloc (Nat.le_refl _) _⟩
      have hi2:i<s.length:=by
       rw [<-hlen]
       rcases Nat.lt_or_ge i (bytesI s).length with h|h
       ·exact h
       ·rw [List.getElem?_eq_none h] at hi; cases hi
      have hx:x=(s[i].toNat:Int):=by
       unfold bytesI at hi
       rw [List.getElem?_map,List.getElem?_eq_getElem hi2] at hi
       exact (Option.some.inj hi).symm
      have hlt:=s[i].toNat_lt
      have hb8:(0:Int)<=((s[i].toNat:Nat):Int)/\((s[i].toNat:Nat):Int)<=255:=by omega
      refine ⟨?_,by rw [hx]; exact hb8⟩
      have hc:(bytesRow ⟨s.toArray⟩ cap).toList[i]?=some (.int .u8 x):=by
       unfold bytesRow
       rw [Array.toList_append,List.getElem?_append_left (by simpa using hi2),hx]
       simp [hi2]
      simp only [Ty.size,Nat.zero_add,Nat.mul_one]
      have hl2:i<(bytesRow ⟨s.toArray⟩ cap).toList.length:=by
       rcases Nat.lt_or_ge i (bytesRow ⟨s.toArray⟩ cap).toList.length with h|h
       ·exact h
       ·rw [List.getElem?_eq_none h] at hc; cases hc
      rw [List.drop_eq_getElem_cons hl2,List.take_succ_cons,List.take_zero]
      rw [List.getElem?_eq_getElem hl2] at hc
      rw [Option.some.inj hc]
     ·cases h
    ·cases h
   ·cases h
  ·cases h
 ·split at h
  ·rename_i u' hu'
   split at h
   ·rename_i h8
    split at h
    ·rename_i e he
     split at h
     ·rename_i hstr
      split at h
      ·rename_i l hl
       cases h
       obtain ⟨e0,he1,he2⟩:=elem_u8 hE hu' h8
       have hds:=und_str hE he hstr
       have hl:as1 ck (.slice (.int .u8)) x=some l:=hl
       have hm:=as1_ok (Y:=fun b=>X b/\∀ y∈ck,¬inC ρ y.1 b) hw (fun b h=>h.1) (fun y hy b hb hn=>hn.2 y hy hb) hl hx
       obtain ⟨cs,⟨a0,cap,rfl,h2,h3,h4,h5⟩,hv⟩:=hm
       have hv:u=.slice a0 l.length cap:=by simpa [Ty.wrap,Ty.isAgg] using hv
       subst hv
       have hlen:(strB l).length<=maxLen:=by unfold strB; rw [List.length_map]; omega
       by_cases hn:l=[]
       ·subst hn
        cases a0 with
        | none =>
         refine ⟨_,w,run_convert_bytes_nil w S e0 he1 he2 _ _ D hds,?_,Below.refl _ _⟩
         exact ⟨_,⟨rfl,hlen⟩,rfl⟩
        | some ad =>
         have hr:=run_convert_bytes_back (P:=E.P) w S D e0 ad cap [] he1 he2 hds (fun j hj=>by simp at hj)
         exact ⟨_,w,hr,⟨_,⟨rfl,hlen⟩,rfl⟩,Below.refl _ _⟩
       ·obtain ⟨b,off,C,T,f,rfl,_,g2,g3⟩:=h5 hn
        have hr:=run_convert_bytes_arg (P:=E.P) w S e0 he1 he2 b off l.length cap l rfl (fun i hi=>by
         have hq:=g3 i l[i] (by simp [hi])
         have hq1:(C.toList.drop (off+i*1)).take 1=[Value.int .u8 l[i]]:=hq.1
         rw [Nat.mul_one] at hq1
         have hq2:(C.toList.drop (off+i))[0]?=some (Value.int .u8 l[i]):=by
          have:=congrArg (fun l=>l[0]?) hq1
          simpa [List.getElem?_take] using this
         rw [List.getElem?_drop] at hq2
         have:l.getD i 0=l[i]:=by simp [hi]
         rw [this]
         simpa [World.cell?,g2] using hq2) D hds
        exact ⟨_,w,hr,⟨_,⟨rfl,hlen⟩,rfl⟩,Below.refl _ _⟩
      ·cases h
     ·cases h
    ·cases h
   ·cases h
  ·cases h
theorem flat_rep:∀ {t:Ty} {X Y:Nat->Prop} {cs:List Value} {x:t.den},flatT t=true->rep t X w cs x->rep t Y w cs x
 | .bool,_,_,_,_,_,h=>h
 | .int _,_,_,_,_,_,h=>h
 | .str,_,_,_,_,_,h=>h
 | .slice _,_,_,_,_,hf,_=>by cases hf
 | .pair t u,_,_,_,_,hf,h=>by
  simp only [flatT] at hf
  split at hf
  ·rename_i e; exact ⟨flat_rep e h.1,flat_rep hf h.2⟩
  ·cases hf
 | .one t,_,_,_,_,hf,h=>flat_rep (t:=t) hf h
 | .fn,_,_,_,_,_,h=>h
theorem flat_m {X Y:Nat->Prop}:∀ {x:AV} {vs:List Value},flat x=true->m ρ X w x vs->m ρ Y w x vs
 | .any,_,_,h=>h
 | .val _,_,_,h=>h
 | .lit _,_,_,h=>h
 | .dat t a,_,hf,⟨cs,h1,h2⟩=>⟨cs,flat_rep hf h1,h2⟩
 | .tup l,_,hf,⟨us,h1,h2⟩=>⟨us,h1,flat_m (x:=l) hf h2⟩
 | .nil,_,_,h=>h
 | .cons x l,_,hf,⟨v,us,h1,h2,h3⟩=>by
  simp only [flat] at hf
  split at hf
  ·rename_i e; exact ⟨v,us,h1,flat_m e h2,flat_m hf h3⟩
  ·cases hf
theorem argsL_ok (hl:∀ x y,look x=some y->m ρ X w y [a.eval x]):∀ {xs:List Operand} {y:List AV},argsL look xs=some y->mL ρ X w y (xs.map a.eval)
 | [],y,h=>by cases h; rfl
 | x::xs,y,h=>by
  unfold argsL at h
  split at h
  ·rename_i e1 e2
   cases h
   exact ⟨_,_,rfl,hl _ _ e1,argsL_ok hl e2⟩
  ·cases h
def lentB (ρ:List Value) (ck:List (Nat×CT)) (b:Nat):Prop:=∃ x∈ck,inC ρ x.1 b
theorem asP_ok {Y:Nat->Prop} (hw:Wd B ρ X ck w) (hY:∀ b,Y b->X b) (hc:∀ x∈ck,∀ b,inC ρ x.1 b->¬Y b):∀ {l:List PK} {xs:List AV} {d:dens (pkD l)} {vs:List Value} {k r:Nat},asP ck l xs=some d->mL ρ X w xs vs ->
    m [] Y w (mArgsR l d k r) vs/\nBx l=0/\nRw l=0/\mCkR l d k r=[]
 | [],[],d,vs,k,r,h,hm=>⟨hm,rfl,rfl,rfl⟩
 | .d t::l,x::xs,d,vs,k,r,h,hm=>by
  obtain ⟨v,us,rfl,h1,h2⟩:=hm
  simp only [asP] at h
  split at h
  ·rename_i e1
   split at h
   ·rename_i e2
    cases h
    obtain ⟨q1,q2,q3,q4⟩:=asP_ok (k:=k) (r:=r) hw hY hc e2 h2
    obtain ⟨cs,p1,p2⟩:=asD_ok (ρ:=ρ) hw hY hc e1 h1
    exact ⟨⟨v,us,rfl,⟨cs,p1,p2⟩,q1⟩,q2,q3,q4⟩
   ·cases h
  ·cases h
 | .k f::l,x::xs,d,vs,k,r,h,hm=>by
  obtain ⟨v,us,rfl,h1,h2⟩:=hm
  simp only [asP] at h
  split at h
  ·split at h
   ·rename_i hf
    have hf:=Nat.eq_of_beq_eq_true hf
    subst hf
    obtain ⟨q1,q2,q3,q4⟩:=asP_ok (k:=k) (r:=r) hw hY hc h h2
    obtain ⟨us1,e1,e2⟩:=h1
    exact ⟨⟨v,us,rfl,⟨us1,e1,e2⟩,q1⟩,q2,q3,q4⟩
   ·cases h
  ·cases h
 | [],_::_,d,vs,k,r,h,hm=>by simp [asP] at h
 | .d _::_,[],d,vs,k,r,h,hm=>by simp [asP] at h
 | .k _::_,[],d,vs,k,r,h,hm=>by simp [asP] at h
 | .b _ _::_,_,d,vs,k,r,h,hm=>by simp [asP] at h
 | .br _ _ _::_,_,d,vs,k,r,h,hm=>by simp [asP] at h
 | .bf _ _::_,_,d,vs,k,r,h,hm=>by simp [asP] at h
 | .c _ _ _::_,_,d,vs,k,r,h,hm=>by simp [asP] at h
 | .r _ _::_,_,d,vs,k,r,h,hm=>by simp [asP] at h
 | .n::_,_,d,vs,k,r,h,hm=>by simp [asP] at h
theorem pure_call {P:Program} {f:FuncId} {s:MSpec} {d:dens (pkD s.pks)} {vs:List Value} {w:World} {X:Nat->Prop} (hs:MCallOk P f s d) (hX:∀ b,X b->b<w.heap.size) (h1:nBx s.pks=0) (h2:nRw s.pks=0) (h3:mCks s.pks d 0=[]) (h4:m [] X w (mArgs s.pks d 0) vs) (h5:(s.F d).ck=[]) (h6:(s.F d).nx=0) (ρ:List Value) :
    Calls P f vs.toArray w (fun e w'=>∃ v,e=.returned v/\m ρ X w' (s.F d).out [v]/\Below w.heap.size w w'):=by
 have hnb:mNb s.pks=0:=by unfold mNb; rw [h1,h2]; rfl
 have hxx:∀ b,XX X [] [] b->X b:=by
  rintro b (h|⟨x,hx,_⟩)
  ·exact h
  ·cases hx
 refine (hs.2 [] X w vs hX ?_ ?_).mono fun e w' ⟨v,ρ',q1,q2,q3⟩=>⟨v,q1,?_,?_⟩
 ·rw [h3,hnb]
  refine ⟨rfl,rfl,Kept.refl w,rfl,List.nodup_nil,(fun x hx=>by cases hx),(fun x hx=>by cases hx),(fun x hx=>by cases hx),(fun x hx=>by cases hx),(fun t x hx=>by cases hx),⟨fun b hb=>?_,Nat.le_refl _,(fun x hx=>by cases hx)⟩⟩
  obtain ⟨i,hi⟩:=hb
  exact (inC_none (Nat.zero_le _) hi).elim
 ·rw [h3]
  exact m_anti (fun b hb=>.inl (hxx b hb)) h4
 ·rw [h5] at q2 q3
  rw [h6] at q2
  have hr:ρ'=[]:=List.length_eq_zero_iff.1 q2.nx
  subst hr
  have:=m_app' ρ q3
  exact m_anti (fun b hb=>.inl (.inl hb)) this
 ·have hk:=q2.kp
  refine ⟨hk.os,hk.tape,hk.output,hk.size,fun k hlt=>hk.block k hlt fun hb=>?_⟩
  obtain ⟨i,hi⟩:=hb
  exact inC_none (Nat.zero_le _) hi
theorem callP_ok (hE:E.Ok) (hw:Wd B ρ X ck w) {f:FuncId} {as:List AV} {vs:List Value} (h:callP E ck f as=some (r,ps)) (hp:AllP ps) (hm:mL ρ X w as vs) :
    (∀ args w,(callFunc f args).run E.P w=.ok (.enter f args) w)/\Calls E.P f vs.toArray w (fun e w'=>∃ v,e=.returned v/\m ρ X w' r [v]/\Below w.heap.size w w'):=by
 have nl:∀ {l:List (Nat×CT)},nilL l=true->l=[]:=by
  intro l h
  cases l with
  | nil=>rfl
  | cons _ _=>cases h
 unfold callP at h
 split at h
 ·rename_i s hs
  have hsp:=hE.ms _ (get?_mem hs)
  split at h
  ·rename_i d hd
   split at h
   ·rename_i e1 e2
    cases h
    have hc:=hsp d hp
    obtain ⟨q1,q2,q3,q4⟩:=asP_ok (k:=0) (r:=addN 0 (nBx s.pks)) hw.none (fun b h=>h) (fun x hx=>by cases hx) hd hm
    exact ⟨hc.1,pure_call hc hw.lt q2 q3 q4 q1 (nl e1) (Nat.eq_of_beq_eq_true e2) ρ⟩
   ·cases h
  ·split at h
   ·rename_i d hd
    split at h
    ·rename_i e1 e2 e3
     cases h
     have hc:=hsp d hp
     obtain ⟨q1,q2,q3,q4⟩:=asP_ok (Y:=fun b=>X b/\¬lentB ρ ck b) (k:=0) (r:=addN 0 (nBx s.pks)) hw (fun b h=>h.1) (fun x hx b hb hn=>hn.2 ⟨x,hx,hb⟩) hd hm
     exact ⟨hc.1,(pure_call hc (fun b hb=>hw.lt b hb.1) q2 q3 q4 q1 (nl e1) (Nat.eq_of_beq_eq_true e2) ρ).mono fun e w' ⟨v,h1,h2,h3⟩=>⟨v,h1,flat_m e3 h2,h3⟩⟩
    ·cases h
   ·cases h
 ·cases h
theorem execOp_call_val0 (a:Act) (dst:Option Tmp) (f:FuncId) (t:Nat) (us:Array Value) (xs:Array Operand) (ats:Array TypeId) (ty:TypeId) (pos:String) (after:Array Edge) (guard:Option (Nat×Bool)) (h:a.eval (.tmp t)=.func (.func f) #[] us) :
    execOp a.eval { dst,op:=.call { callee:=.value (.tmp t),args:=xs,argTypes:=ats },type:=ty,pos,after,guard }=callFunc f ((#[]++xs.map a.eval)++us):=by
 simp only [execOp,resolve,h]
 rfl
theorem callA_ok (hE:E.Ok) (hw:Wd B ρ X ck w) (hl:∀ x y,look x=some y->m ρ X w y [a.eval x]) {c:Call} (h:callA E look ck c=some (r,ps)) (hp:AllP ps) :
    Does E.P a.eval ⟨d,.call c,ty,pos,af,g⟩ w (fun v w'=>m ρ X w' r [v]/\Below w.heap.size w w'):=by
 obtain ⟨callee,args,ats⟩:=c
 unfold callA at h
 split at h
 ·rename_i f hcal
  cases hcal
  split at h
  ·rename_i s hs
   have hsp:=hE.sp _ (get?_mem hs)
   split at h
   ·rename_i as has
    have hargs:=argsL_ok hl has
    have earr:args.map a.eval=(args.toList.map a.eval).toArray:=by rw [<-Array.toList_inj,Array.toList_map]
    split at h
    ·rename_i d' hd
     simp only [Option.some.injEq] at h
     obtain ⟨hc,hcall⟩:=hsp d' (by rw [h]; exact hp)
     unfold Does
     rw [execOp_call_go,hc]
     rw [earr]
     have hm:=asArgs_ok hw.none (fun b h=>h) (fun x hx=>by cases hx) hd hargs
     have:=hcall ρ X w _ hw.lt hm
     rw [h] at this
     simpa using this.mono fun e w' ⟨v,h1,h2,h3⟩=>⟨v,h1,h2,h3⟩
    ·split at h
     ·rename_i d' hd
      split at h
      ·rename_i hfl
       simp only [Option.some.injEq] at h
       obtain ⟨hc,hcall⟩:=hsp d' (by rw [h]; exact hp)
       unfold Does
       rw [execOp_call_go,hc]
       rw [earr]
       have hm:=asArgs_ok (Y:=fun b=>X b/\¬lentB ρ ck b) hw (fun b h=>h.1) (fun x hx b hb hn=>hn.2 ⟨x,hx,hb⟩) hd hargs
       have:=hcall ρ _ w _ (fun b hb=>hw.lt b hb.1) hm
       rw [h] at this hfl
       simpa using this.mono fun e w' ⟨v,h1,h2,h3⟩=>⟨v,h1,flat_m hfl h2,h3⟩
      ·cases h
     ·cases h
   ·cases h
  ·split at h
   ·rename_i as has
    have hargs:=argsL_ok hl has
    have earr:args.map a.eval=(args.toList.map a.eval).toArray:=by rw [<-Array.toList_inj,Array.toList_map]
    obtain ⟨hc,hcall⟩:=callP_ok hE hw h hp hargs
    unfold Does
    rw [execOp_call_go,hc,earr]
    simpa using hcall.mono fun e w' ⟨v,h1,h2,h3⟩=>⟨v,h1,h2,h3⟩
   ·cases h
 ·rename_i t hcal
  cases hcal
  split at h
  ·rename_i f l hlk
   split at h
   ·rename_i hil
    split at h
    ·rename_i as has
     have hargs:=argsL_ok hl has
     have earr:args.map a.eval=(args.toList.map a.eval).toArray:=by rw [<-Array.toList_inj,Array.toList_map]
     obtain ⟨us,hv,hm⟩:=hl (.tmp t) _ hlk
     have hv:=(List.cons.inj hv).1
     obtain ⟨hc,hcall⟩:=callP_ok hE hw h hp (mL_cat hargs (mL_avL hil hm))
     unfold Does
     rw [execOp_call_val0 (h:=hv),hc,earr]
     simpa using hcall.mono fun e w' ⟨v,h1,h2,h3⟩=>⟨v,h1,h2,h3⟩
    ·cases h
   ·cases h
  ·cases h
 ·rename_i hcal
  cases hcal
  split at h
  ·rename_i x T e1 e2
   split at h
   ·rename_i y hy
    obtain ⟨z,hz,hm⟩:=lenAV_ok (ty:=ty) hE hw h (hl _ _ hy)
    have e3:args=#[x]:=by rw [<-Array.toList_inj]; exact e1
    have e4:ats=#[T]:=by rw [<-Array.toList_inj]; exact e2
    subst e3 e4
    refine does_val (v:=z) (w':=w) ?_ ⟨hm,Below.refl _ _⟩
    simp [execOp,resolve,invoke,builtin,hz]
   ·cases h
  ·cases h
 ·rename_i hcal
  cases hcal
  split at h
  ·rename_i x y e1
   split at h
   ·rename_i k p k' q h1 h2
    split at h
    ·rename_i hk
     cases h
     have hk:=keq_ty hk
     subst hk
     have e1:args=#[x,y]:=by rw [<-Array.toList_inj]; exact e1
     subst e1
     obtain ⟨q1,q2⟩:=m_int (hl _ _ h1)
     obtain ⟨q3,q4⟩:=m_int (hl _ _ h2)
     refine does_val (v:=.int k (if q>p then q else p)) (w':=w) ?_ ⟨m_int_of ?_,Below.refl _ _⟩
     ·simp [execOp,resolve,invoke,builtin,q1,q3,Builtin.max_,Builtin.max2]
     ·split<;>assumption
    ·cases h
   ·cases h
  ·cases h
 ·rename_i hcal
  cases hcal
  split at h
  ·rename_i x y e1
   split at h
   ·rename_i k p k' q h1 h2
    split at h
    ·rename_i hk
     cases h
     have hk:=keq_ty hk
     subst hk
     have e1:args=#[x,y]:=by rw [<-Array.toList_inj]; exact e1
     subst e1
     obtain ⟨q1,q2⟩:=m_int (hl _ _ h1)
     obtain ⟨q3,q4⟩:=m_int (hl _ _ h2)
     refine does_val (v:=.int k (if q<p then q else p)) (w':=w) ?_ ⟨m_int_of ?_,Below.refl _ _⟩
     ·simp [execOp,resolve,invoke,builtin,q1,q3,Builtin.min_,Builtin.min2]
     ·split<;>assumption
    ·cases h
   ·cases h
  ·cases h
 ·cases h
end
end Go.Proofs.Ytbokoblnehgkaaa.Gx
namespace Go.Proofs.Ytbokoblnehgkaaa.Gx
open Go Go.RowKit Tw
set_option linter.unusedVariables false
section
variable {E:Env} {B:Nat} {ρ:List Value} {X:Nat->Prop} {w:World} {ck:List (Nat×CT)} {look:Operand->Option AV} {a:Act} {r:AV} {ps:List Prop}
  {d:Option Nat} {ty:TypeId} {pos:String} {af:Array Edge} {g:Option (Nat×Bool)} {op:Op} {an:An}
theorem foldl_splice (off:Nat):∀ (us:List Value) (j:Nat) (cells:Array Value),off+j+us.length<=cells.size ->
    ((us.zipIdx j).foldl (fun (cs:Array Value) (x:Value×Nat)=>cs.setIfInBounds (off+x.2) x.1) cells).toList=cells.toList.take (off+j)++us++cells.toList.drop (off+j+us.length)
 | [],j,cells,h=>by simp
 | u::us,j,cells,h=>by
  simp only [List.length_cons] at h
  rw [List.zipIdx_cons,List.foldl_cons,foldl_splice off us (j+1) _ (by simp; omega)]
  simp only [Array.toList_setIfInBounds,List.length_cons]
  have hl:off+j<cells.toList.length:=by simp; omega
  rw [List.take_set,List.drop_set_of_lt (by omega),show off+(j+1)=off+j+1 by omega,List.take_succ_eq_append_getElem hl]
  rw [List.set_append,if_neg (by rw [List.length_take]; omega)]
  simp only [List.length_take,Nat.min_eq_left (Nat.le_of_lt hl),Nat.sub_self,List.set_cons_zero,List.append_assoc,List.cons_append,List.nil_append]
  rw [show off+j+1+us.length=off+j+(us.length+1) by omega]
theorem m_zA:∀ {t:Ty} {tl:AV} {us:List Value},m ρ X w tl us->m ρ X w (zA t tl) (zc t++us)
 | .bool,tl,us,h=>⟨_,_,rfl,rfl,h⟩
 | .int k,tl,us,h=>⟨_,_,rfl,m_int_of (by cases k<;>simp [inR,lo,hi]),h⟩
 | .str,tl,us,h=>⟨_,_,rfl,m_str_of (s:=[]) (by simp [maxLen]),h⟩
 | .slice _,tl,us,h=>⟨_,_,rfl,rfl,h⟩
 | .pair t u,tl,us,h=>by
  have:=m_zA (t:=t) (m_zA (t:=u) h)
  rwa [<-List.append_assoc] at this
 | .one t,tl,us,h=>m_zA (t:=t) h
 | .fn,tl,us,h=>⟨_,_,rfl,⟨_,rfl,rfl⟩,h⟩
theorem isL_zA:∀ {t:Ty} {tl:AV},isL tl=true->isL (zA t tl)=true
 | .bool,_,h=>h
 | .int _,_,h=>h
 | .str,_,h=>h
 | .slice _,_,h=>h
 | .pair t u,_,h=>isL_zA (t:=t) (isL_zA (t:=u) h)
 | .one t,_,h=>isL_zA (t:=t) h
 | .fn,_,h=>h
theorem zc_one:∀ (t:Ty),∀ c∈zc t,c.oneCell'=true:=fun t=>rep_one (rep_zero (fun _=>False) default t)
theorem m_dA:∀ {t:Ty} {a:t.den} {cs:List Value} {tl:AV} {us:List Value},rep t X w cs a->m ρ X w tl us->m ρ X w (dA t a tl) (cs++us)
 | .pair t u,p,cs,tl,us,h,h'=>by
  have:=m_dA (t:=t) h.1 (m_dA (t:=u) h.2 h')
  rwa [<-List.append_assoc,List.take_append_drop] at this
 | .one t,p,cs,tl,us,h,h'=>m_dA (t:=t) h h'
 | .bool,b,cs,tl,us,h,h'=>by
  have h:cs=[.bool b]:=h
  subst h; exact ⟨_,us,rfl,⟨_,rfl,rfl⟩,h'⟩
 | .int k,n,cs,tl,us,h,h'=>by
  obtain ⟨rfl,h2⟩:=h; exact ⟨_,us,rfl,⟨_,⟨rfl,h2⟩,rfl⟩,h'⟩
 | .str,n,cs,tl,us,h,h'=>by
  obtain ⟨rfl,h2⟩:=h; exact ⟨_,us,rfl,⟨_,⟨rfl,h2⟩,rfl⟩,h'⟩
 | .slice t,l,cs,tl,us,h,h'=>by
  obtain ⟨a,cap,rfl,h2⟩:=h; exact ⟨_,us,rfl,⟨_,⟨a,cap,rfl,h2⟩,rfl⟩,h'⟩
 | .fn,b,cs,tl,us,h,h'=>by
  have h:cs=[.nilFunc]:=h
  subst h; exact ⟨_,us,rfl,⟨_,rfl,rfl⟩,h'⟩
theorem isL_dA:∀ {t:Ty} {a:t.den} {tl:AV},isL tl=true->isL (dA t a tl)=true
 | .pair t u,p,tl,h=>isL_dA (t:=t) (isL_dA (t:=u) h)
 | .one t,p,tl,h=>isL_dA (t:=t) h
 | .fn,_,_,h=>h
 | .bool,_,_,h=>h
 | .int _,_,_,h=>h
 | .str,_,_,h=>h
 | .slice _,_,_,h=>h
theorem cellsA_ok {u:Ty} {x tl cs:AV} {v:Value} {us:List Value} (h:cellsA u x tl=some cs) (htl:isL tl=true) (hm:m ρ X w x [v]) (hu:m ρ X w tl us) :
    m ρ X w cs (v.cells.toList++us)/\v.cells.size=u.size/\isL cs=true/\(∀ c∈v.cells.toList,c.oneCell'=true)/\v=u.wrap v.cells.toList:=by
 have single:∀ {y:AV},u.isAgg=false->v.oneCell'=true->m ρ X w y [v]->m ρ X w (.cons y tl) (v.cells.toList++us)/\v.cells.size=u.size/\isL (.cons y tl)=true/\(∀ c∈v.cells.toList,c.oneCell'=true)/\v=u.wrap v.cells.toList:=by
  intro y hag h1 hy
  have e:v.cells=#[v]:=by cases v<;>simp_all [Value.oneCell',Value.cells]
  rw [e,size1 hag]
  exact ⟨⟨v,us,rfl,hy,hu⟩,rfl,htl,fun c hc=>by simp at hc; rw [hc]; exact h1,by simp [Ty.wrap,hag]⟩
 unfold cellsA at h
 split at h
 ·rename_i hag
  split at h
  ·split at h
   ·rename_i b e
    cases h
    obtain ⟨cs,h1,h2⟩:=castD_elim e (fun t a=>m ρ X w (.dat t a) [v]) hm
    have h2:=(List.cons.inj h2).1
    have e2:v.cells=cs.toArray:=by rw [h2]; simp [Ty.wrap,hag,Value.cells]
    rw [e2]
    exact ⟨m_dA h1 hu,by simpa using rep_len h1,isL_dA htl,rep_one h1,by rw [h2]⟩
   ·cases h
  ·split at h
   ·rename_i e1
    split at h
    ·rename_i e2
     cases h
     obtain ⟨cs,h1,h2,h3⟩:=hm
     have h1:=(List.cons.inj h1).1
     subst h1
     have hl:=m_len e2 h2
     have:=Nat.eq_of_beq_eq_true e1
     refine ⟨m_app e2 h2 hu,by simp [Value.cells]; omega,isL_app e2 htl,h3,by simp [Ty.wrap,hag,Value.cells]⟩
    ·cases h
   ·cases h
  ·cases h
 ·rename_i hag
  have hag:u.isAgg=false:=by simpa using hag
  split at h
  ·split at h
   ·rename_i b e
    cases h
    have hd:=castD_elim e (fun t a=>m ρ X w (.dat t a) [v]) hm
    exact single hag (rep_one (rep_of_dat hag hd) v (by simp)) hd
   ·cases h
  ·cases h
   have:[v]=[.bool _]:=hm
   have h1:v.oneCell'=true:=by rw [(List.cons.inj this).1]; rfl
   exact single hag h1 hm
  ·cases h
   have:[v]=[.slice _ _ _]:=hm
   exact single hag (by rw [(List.cons.inj this).1]; rfl) hm
  ·cases h
   have:[v]=[.pointer _]:=hm
   exact single hag (by rw [(List.cons.inj this).1]; rfl) hm
  ·cases h
   have:[v]=[.map _]:=hm
   exact single hag (by rw [(List.cons.inj this).1]; rfl) hm
  ·cases h
   obtain ⟨v',_,h1,h2⟩:=id hm
   exact single hag (by rw [(List.cons.inj h2).1]; exact h1) hm
  ·cases h
   obtain ⟨v',b,_,_,h2⟩:=id hm
   exact single hag (by rw [(List.cons.inj h2).1]; rfl) hm
  ·cases h
   obtain ⟨us',h1,_⟩:=id hm
   exact single hag (by rw [(List.cons.inj h1).1]; rfl) hm
  ·cases h
   obtain ⟨v',_,h1,h2⟩:=id hm
   exact single hag (by rw [(List.cons.inj h2).1]; exact sliV_one h1) hm
  ·cases h
   obtain ⟨us',v',_,_,h1,h2⟩:=id hm
   exact single hag (by rw [(List.cons.inj h2).1]; exact h1) hm
  ·cases h
theorem m_splice {l cs:AV} {off n:Nat} {vs us:List Value} (hl:isL l=true) (hc:isL cs=true) (hn:off+n<=lenA l) (hus:us.length=n) (h:m ρ X w l vs) (h':m ρ X w cs us) :
    m ρ X w (spliceA l off n cs) (vs.take off++us++vs.drop (off+n))/\isL (spliceA l off n cs)=true:=by
 unfold spliceA
 rw [List.append_assoc]
 exact ⟨m_app isL_take (m_take hl (by omega) h) (m_app hc h' (m_drop hl hn h)),isL_app isL_take (isL_app hc (isL_drop hl))⟩
theorem fillA_ok (hl:∀ x y,look x=some y->m ρ X w y [a.eval x]) {pl:Nat->Option (Nat×Ty)} {place:Nat->Option (Nat×Nat)} (hpl:∀ i o u,pl i=some (o,u)->place i=some (o,u.size)) :
    ∀ {ps:List (Nat×Operand)} {acc r:AV} {cells:Array Value},fillA look pl ps acc=some r->isL acc=true->m ρ X w acc cells.toList->(∀ c∈cells.toList,c.oneCell'=true) ->
     ∃ cells',Instr.fill place cells (ps.map fun x=>(x.1,a.eval x.2))=some cells'/\m ρ X w r cells'.toList/\isL r=true/\cells'.size=cells.size/\∀ c∈cells'.toList,c.oneCell'=true
 | [],acc,r,cells,h,hL,hm,h1=>by cases h; exact ⟨cells,rfl,hm,hL,rfl,h1⟩
 | (f,x)::ps,acc,r,cells,h,hL,hm,h1=>by
  simp only [fillA] at h
  split at h
  ·rename_i o u e1
   split at h
   ·rename_i y e2
    split at h
    ·rename_i cs e3
     split at h
     ·rename_i e4
      have e4:=Nat.le_of_ble_eq_true e4
      obtain ⟨q1,q2,q3,q4,_⟩:=cellsA_ok e3 rfl (hl _ _ e2) (show m ρ X w .nil [] from rfl)
      rw [List.append_nil] at q1
      have hlen:=m_len hL hm
      have hsz:o+u.size<=cells.size:=by rw [<-hlen] at e4; simpa using e4
      obtain ⟨s1,s2⟩:=m_splice (n:=u.size) hL q3 e4 (by simpa using q2) hm q1
      have hf:=foldl_splice o (a.eval x).cells.toList 0 cells (by simp; omega)
      have hq2:(a.eval x).cells.toList.length=u.size:=by simpa using q2
      rw [Nat.add_zero,hq2] at hf
      have hfold:((a.eval x).cells.zipIdx.foldl (fun cs (x:Value×Nat)=>cs.setIfInBounds (o+x.2) x.1) cells)=(((a.eval x).cells.toList.zipIdx 0).foldl (fun (cs:Array Value) (x:Value×Nat)=>cs.setIfInBounds (o+x.2) x.1) cells):=by
       rw [<-Array.foldl_toList,Array.toList_zipIdx]
      have s3:∀ c∈(((a.eval x).cells.toList.zipIdx 0).foldl (fun (cs:Array Value) (x:Value×Nat)=>cs.setIfInBounds (o+x.2) x.1) cells).toList,c.oneCell'=true:=by
       rw [hf]
       intro c hc
       rcases List.mem_append.1 hc with hc|hc
       ·rcases List.mem_append.1 hc with hc|hc
        ·exact h1 c (List.mem_of_mem_take hc)
        ·exact q4 c hc
       ·exact h1 c (List.mem_of_mem_drop hc)
      rw [<-hf] at s1
      obtain ⟨cells',t1,t2,t3,t4,t5⟩:=fillA_ok hl hpl h s2 s1 s3
      refine ⟨cells',?_,t2,t3,?_,t5⟩
      ·simp only [List.map_cons,Instr.fill,hpl _ _ _ e1,q2]
       rw [if_neg (by simp; omega),hfold]
       exact t1
      ·rw [t4,<-Array.length_toList,hf]
       simp [hq2]; omega
     ·cases h
    ·cases h
   ·cases h
  ·cases h
theorem plF_ok {T:TypeId} {e:TE} (hf:TyFact E.P T e):∃ fs:Array Field,(0<e.nf->E.P.underlying T=some (.struct fs))/\∀ i o u,plF e i=some (o,u)->∃ F inf,fs[i]?=some F/\F.offset=o/\E.P.info? F.type=some inf/\inf.size=u.size:=by
 rcases Nat.eq_zero_or_pos e.nf with h0|h0
 ·refine ⟨#[],fun h=>by omega,fun i o u h=>?_⟩
  unfold plF at h
  split at h
  ·rename_i q
   have:=Nat.le_of_ble_eq_true q
   omega
  ·cases h
 ·have key:∀ i,i<e.nf->∃ o u g fs F inf,fld e.ty e.nf i=some (o,⟨u,g⟩)/\E.P.underlying T=some (.struct fs)/\fs[i]?=some F/\F.offset=o/\E.P.info? F.type=some inf/\inf.size=u.size:=by
    intro i hi
    have h:=List.all_eq_true.1 hf.f i (List.mem_range.2 hi)
    unfold fieldOk at h
    split at h
    ·rename_i o u g fs e1 e2
     split at h
     ·rename_i F e3
      simp only [Bool.and_eq_true,beq_iff_eq] at h
      obtain ⟨h1,h2⟩:=h
      split at h2
      ·rename_i inf e4
       simp only [Bool.and_eq_true,beq_iff_eq] at h2
       exact ⟨o,u,g,fs,F,inf,e1,e2,e3,h1,e4,h2.2⟩
      ·cases h2
     ·cases h
    ·cases h
  obtain ⟨_,_,_,fs,_,_,_,hu,_⟩:=key 0 h0
  refine ⟨fs,fun _=>hu,fun i o u h=>?_⟩
  unfold plF at h
  split at h
  ·rename_i q
   obtain ⟨o',u',g',fs',F,inf,e1,e2,e3,e4,e5,e6⟩:=key i (Nat.le_of_ble_eq_true q)
   rw [e1] at h
   cases h
   rw [hu] at e2
   cases e2
   exact ⟨F,inf,e3,e4,e5,e6⟩
  ·cases h
end
end Go.Proofs.Ytbokoblnehgkaaa.Gx
namespace Go.Proofs.Ytbokoblnehgkaaa.Gx
open Go Go.RowKit Tw
set_option linter.unusedVariables false
theorem made_list (z:List Value) (s:Nat) (hs:z.length=s):∀ n,(madeCells z.toArray (n*s)).toList=(List.replicate n z).flatten:=by
 have key:∀ n,(List.range (n*s)).map (fun k=>z.toArray[k % z.toArray.size]!)=(List.replicate n z).flatten:=by
  intro n
  induction n with
  | zero=>simp
  | succ n ih =>
   rw [show (n+1)*s=s+n*s by rw [Nat.succ_mul,Nat.add_comm],List.range_add,List.map_append,List.map_map,List.replicate_succ,List.flatten_cons,<-ih]
   congr 1
   ·refine List.ext_getElem (by simp [hs]) fun i h1 h2=>?_
    have hi:i<s:=by simpa using h1
    have hz:i<z.length:=by omega
    simp only [List.getElem_map,List.getElem_range,List.size_toArray,hs,Nat.mod_eq_of_lt hi]
    simp [hz]
   ·apply List.map_congr_left
    intro k hk
    simp [hs]
 intro n
 unfold madeCells
 rw [Array.toList_map,Array.toList_range]
 exact key n
theorem flat_part {z:List Value} {s:Nat} (hs:z.length=s):∀ {n i:Nat},i<n->((List.replicate n z).flatten.drop (i*s)).take s=z
 | n+1,0,_=>by
  rw [List.replicate_succ,List.flatten_cons,Nat.zero_mul,List.drop_zero,List.take_append_of_le_length (by omega),List.take_of_length_le (by omega)]
 | n+1,i+1,h=>by
  rw [List.replicate_succ,List.flatten_cons,Nat.succ_mul,Nat.add_comm,<-List.drop_drop,List.drop_left' hs]
  exact flat_part hs (by omega)
theorem isL_zzA {u:Ty}:∀ {n:Nat},isL (zzA u n)=true
 | 0=>rfl
 | n+1=>isL_zA isL_zzA
section
variable {E:Env} {B:Nat} {ρ:List Value} {a:Act} {w:World} {d:Option Nat} {ck:List (Nat×CT)} {r:AV} {ps:List Prop}
  {ty:TypeId} {pos:String} {af:Array Edge} {X:Nat->Prop} {g:Option (Nat×Bool)} {look:Operand->Option AV}
theorem m_zzA {u:Ty}:∀ {n:Nat},m ρ X w (zzA u n) ((List.replicate n (zc u)).flatten)
 | 0=>rfl
 | n+1=>by rw [List.replicate_succ,List.flatten_cons]; exact m_zA m_zzA
theorem rowsA_ok {B:Nat} {ck:List (Nat×CT)} (hw:Wd B ρ X ck w) {u:Ty}:∀ {n:Nat} {A:AV} {l:List u.den} {cs:List Value},rowsA u n A=some l->m ρ X w A cs ->
    l.length=n/\∀ (i:Nat) (x:u.den),l[i]?=some x->rep u X w ((cs.drop (i*u.size)).take u.size) x
 | 0,A,l,cs,h,hm=>by cases h; exact ⟨rfl,fun i x h=>by simp at h⟩
 | n+1,A,l,cs,h,hm=>by
  unfold rowsA at h
  split at h
  ·rename_i e1
   split at h
   ·rename_i e2
    cases h
    obtain ⟨h1,h2⟩:=asDats_ok hw.none (fun b h=>h) (fun x hx=>by cases hx) e1 hm
    obtain ⟨h3,h4⟩:=rowsA_ok hw e2 h2
    refine ⟨by simp [h3],fun i x hx=>?_⟩
    cases i with
    | zero=>simp at hx; subst hx; simpa using h1
    | succ i =>
     have:=h4 i x (by simpa using hx)
     rw [List.drop_drop] at this
     rwa [Nat.succ_mul,Nat.add_comm (i*u.size)]
   ·cases h
  ·cases h
theorem flat_take {z:List Value} {s:Nat} (hs:z.length=s):∀ {l c:Nat},l<=c->((List.replicate c z).flatten).take (l*s)=(List.replicate l z).flatten
 | 0,c,_=>by simp
 | l+1,0,h=>by omega
 | l+1,c+1,h=>by
  rw [List.replicate_succ,List.flatten_cons,List.replicate_succ,List.flatten_cons,Nat.succ_mul,Nat.add_comm,List.take_append,List.take_of_length_le (by omega),hs,Nat.add_sub_cancel_left,flat_take hs (by omega)]
theorem make_own {P:Program} {T el:TypeId} {i:TypeInfo} {u:Ty} (hus:P.underlying T=some (.slice el)) (hi:P.info? el=some i) (hz:i.zero=some (u.wrap (zc u))) (hs:i.size=u.size) {p q:Int} (h0:0<=p) (hpq:p<=q) (hb:(i.bytes:Int)*q<=281474976710656) (h63:q<=9223372036854775807) :
    ∃ w',(Instr.makeSlice T (.int .i64 p) (.int .i64 q)).run P w=.ok (.slice (some ⟨w.heap.size,0,none⟩) p.toNat q.toNat) w'/\w'.ownsRow w.heap.size el u.size (.slice (some ⟨w.heap.size,0,none⟩) p.toNat q.toNat) p.toNat ((List.replicate p.toNat (zc u)).flatten)/\Below w.heap.size w w':=by
 have hz2:(u.wrap (zc u)).cells=(zc u).toArray:=wrap_cells (zc_len _) (zc_one _)
 have hr:=run_make (P:=P) w T el i _ hus hi hz .i64 .i64 p q h0 hpq hb h63
 rw [hz2,hs] at hr
 have hlen:((List.replicate p.toNat (zc u)).flatten).length=p.toNat*u.size:=by
  rw [List.length_flatten,List.map_replicate,List.sum_replicate_nat,zc_len]
 refine ⟨_,hr,⟨hlen,.inr ⟨w.heap.size,q.toNat,_,rfl,Nat.le_refl _,heap_alloc_new w _,by omega,by simp only [maxLen]; omega,?_,?_⟩⟩,(Below.refl _ _).alloc (Nat.le_refl _) _⟩
 ·rw [size_madeCells]
 ·rw [made_list _ _ (zc_len u)]
  exact flat_take (zc_len u) (by omega)
theorem dat_own {B:Nat} {T:TypeId} {t:Ty} {v:Value} {l:List t.den} {xs:List Value} (ho:w.ownsRow B T t.size v l.length xs) (h1:∀ c∈xs,c.oneCell'=true) (hX:∀ b,blk v=some b->¬X b)
    (hr:∀ i x,l[i]?=some x->rep t X w ((xs.drop (i*t.size)).take t.size) x):m ρ X w (.dat (.slice t) l) [v] :=
 row_dat (ρ:=[v]) (c:=0) (B:=B) (T:=T) ⟨v,xs,rfl,ho,h1,hr⟩ (fun b h=>h) (fun b hb=>hX b (by obtain ⟨_,⟨e,_⟩|⟨_,_,_,e,_⟩⟩:=ho<;>(rw [e] at hb; rw [e]; exact hb))) rfl
theorem new_blk {B:Nat} {T:TypeId} {size n:Nat} {w':World} {v:Value} {xs:List Value} (h:w'.ownsRow B T size v n xs):∀ b,blk v=some b->B<=b:=by
 intro b hb
 rcases h.2 with ⟨rfl,_⟩|⟨g,cap,cur,rfl,h1,_⟩
 ·cases hb
 ·cases hb; exact h1
theorem makeD_ok (hE:E.Ok) (hw:Wd B ρ X ck w) {T:TypeId} {x y:AV} {o1 o2:Operand} (hx:m ρ X w x [a.eval o1]) (hy:m ρ X w y [a.eval o2]) (he:makeD E T x y=some (r,ps)) (hp:AllP ps) :
    Does E.P a.eval ⟨d,.makeSlice T o1 o2,ty,pos,af,g⟩ w (fun v w'=>m ρ X w' r [v]/\Below w.heap.size w w'):=by
 unfold makeD at he
 split at he
 ·rename_i p q
  obtain ⟨ex,hx1⟩:=m_int hx
  obtain ⟨ey,hy1⟩:=m_int hy
  split at he
  ·rename_i u hu
   obtain ⟨e,e',h1,h2,h3,h4⟩:=elemOf_ok hu
   simp only [h1,h3] at he
   cases he
   obtain ⟨⟨hp1,hp3,hp2⟩,_⟩:=hp
   obtain ⟨i,hi,hz,hs,hby⟩:=(hE.fact h3).info
   rw [h4] at hz hs
   have hq:=hy1.2
   simp only [Gx.hi] at hq
   obtain ⟨w',hr,ho,hb⟩:=make_own (P:=E.P) (w:=w) (und_slice hE h1 h2) hi hz hs hp1 hp3 (by rw [hby]; omega) hq
   have hex:(execOp a.eval ⟨d,.makeSlice T o1 o2,ty,pos,af,g⟩).run E.P w=.ok (.value (.slice (some ⟨w.heap.size,0,none⟩) p.toNat q.toNat)) w':=by
    simp only [execOp,Sem.run_bind,ex,ey,hr]; rfl
   refine does_val hex ⟨dat_own (T:=e.elem) (t:=u) (l:=List.replicate p.toNat (zd u)) (xs:=(List.replicate p.toNat (zc u)).flatten) (by simpa using ho) (fun c hc=>?_) (fun b hb hx=>?_) (fun i x hx=>?_),hb⟩
   ·obtain ⟨z,hz,hc⟩:=List.mem_flatten.1 hc
    rw [List.eq_of_mem_replicate hz] at hc
    exact zc_one u c hc
   ·have h7:=hw.lt b hx
    have hb:some w.heap.size=some b:=hb
    have:=Option.some.inj hb
    omega
   ·rw [List.getElem?_replicate] at hx
    split at hx
    ·rename_i hlt
     cases hx
     rw [flat_part (zc_len u) hlt]
     exact rep_zero _ w' u
    ·cases hx
  ·cases he
 ·cases he
theorem litD_ok (hE:E.Ok) (hw:Wd B ρ X ck w) (hl:∀ x y,look x=some y->m ρ X w y [a.eval x]) {T:TypeId} {n:Nat} {parts:Array (Nat×Operand)} (he:litD E look T n parts.toList=some (r,ps)) :
    Does E.P a.eval ⟨d,.buildSlice T n parts,ty,pos,af,g⟩ w (fun v w'=>m ρ X w' r [v]/\Below w.heap.size w w'):=by
 have hnew:∀ b,w.heap.size=b->¬X b:=fun b hb hx=>by have:=hw.lt b hx; omega
 unfold litD at he
 split at he
 ·rename_i u hu
  obtain ⟨e,e',h1,h2,h3,h4⟩:=elemOf_ok hu
  simp only [h1] at he
  obtain ⟨i,hi,hz,hs,hby⟩:=(hE.fact h3).info
  have hz2:(e'.ty.wrap (zc e'.ty)).cells=(zc e'.ty).toArray:=wrap_cells (zc_len _) (zc_one _)
  have hupos:0<u.size:=by
   have:∀ t:Ty,0<t.size:=by
    intro t
    induction t with
    | pair t u iht ihu=>simp only [Ty.size]; omega
    | one t ih=>exact ih
    | _=>simp [Ty.size]
   exact this u
  have hus:=und_slice hE h1 h2
  rw [h4] at hs hz2 hz
  split at he
  ·rename_i b1 b2
   have b1:=Nat.le_of_ble_eq_true b1
   have b2:=Nat.le_of_ble_eq_true b2
   split at he
   ·rename_i cs e1
    split at he
    ·rename_i l e2
     cases he
     obtain ⟨cells',q1,q2,q3,q4,q5⟩:=fillA_ok (a:=a) (ρ:=ρ) (X:=X) (w:=w) (place:=fun i=>some (i*u.size,u.size)) (cells:=madeCells (zc u).toArray (n*u.size)) hl (fun i o v hiu=>by unfold plE at hiu; cases hiu; rfl) e1 isL_zzA (by rw [made_list _ _ (zc_len u)]; exact m_zzA) (fun c hc=>by
         rw [made_list _ _ (zc_len u)] at hc
         obtain ⟨z,hz,hc⟩:=List.mem_flatten.1 hc
         rw [List.eq_of_mem_replicate hz] at hc
         exact zc_one u c hc)
     obtain ⟨r1,r2⟩:=rowsA_ok hw e2 q2
     have hrun:=run_buildSlice (P:=E.P) w T e.elem n (parts.map fun (i,x)=>(i,a.eval x)) cells' i _ hus hi hz (by rw [hs]; omega) (by rw [hs]; have:=Nat.mul_pos b2 hupos; omega)
      (by rw [hs,hz2]; rw [<-q1]; simp [madeCells])
     have ho:=World.ownsRow_lit (e:=e.elem) (base:=w.heap.size) w cells' n (Nat.le_refl _) (by
      have:n<=n*u.size:=Nat.le_mul_of_pos_right n hupos
      simp only [maxLen]; omega) (by rw [q4,size_madeCells])
     have hbel:Below w.heap.size w (w.alloc (.cells cells' e.elem)):=(Below.refl _ _).alloc (Nat.le_refl _) _
     refine does_val (v:=.slice (some ⟨w.heap.size,0,none⟩) n n) (w':=w.alloc (.cells cells' e.elem)) ?_ ⟨dat_own (T:=e.elem) (t:=u) (l:=l) (by rw [r1]; exact ho) q5 (fun b hb=>hnew b (by cases hb; rfl)) (fun i x hx=>rep_st (r2 i x hx) (Ev.of_below hbel)),hbel⟩
     simp only [execOp,Sem.run_bind,hrun]; rfl
    ·cases he
   ·cases he
  ·rename_i b1 b2
   have hn:n=0:=by
    rcases Nat.eq_zero_or_pos n with h|h
    ·exact h
    ·have:Nat.ble 1 n=true:=Nat.ble_eq_true_of_le h
     rw [this] at b2; cases b2
   subst hn
   split at he
   ·rename_i hps
    cases he
    have hp0:parts=#[]:=by rw [<-Array.toList_inj]; exact hps
    subst hp0
    have ho:=World.ownsRow_lit (e:=e.elem) (size:=u.size) (base:=w.heap.size) w #[] 0 (Nat.le_refl _) (by simp [maxLen]) (by simp)
    have hbel:Below w.heap.size w (w.alloc (.cells #[] e.elem)):=(Below.refl _ _).alloc (Nat.le_refl _) _
    refine does_val (v:=.slice (some ⟨w.heap.size,0,none⟩) 0 0) (w':=w.alloc (.cells #[] e.elem)) ?_ ⟨dat_own (T:=e.elem) (t:=u) (l:=[]) ho (fun c hc=>by cases hc) (fun b hb=>hnew b (by cases hb; rfl)) (fun i x hx=>by simp at hx),hbel⟩
    have hr0:Array.map (fun (_:Nat)=>(default:Value)) (Array.range 0)=#[]:=by apply Array.ext<;>simp
    simp [execOp,Instr.buildSlice,run_underlying hus,sizeOf,typeInfo,hi,Instr.fill,newRow,hr0]
   ·cases he
  ·cases he
 ·cases he
end
end Go.Proofs.Ytbokoblnehgkaaa.Gx
namespace Go.Proofs.Ytbokoblnehgkaaa.Gx
open Go Go.RowKit Tw
set_option linter.unusedVariables false
section
variable {E:Env} {B:Nat} {ρ:List Value} {X:Nat->Prop} {w:World} {ck:List (Nat×CT)} {look:Operand->Option AV} {a:Act} {r:AV} {ps:List Prop}
  {d:Option Nat} {ty:TypeId} {pos:String} {af:Array Edge} {g:Option (Nat×Bool)} {op:Op} {an:An}
theorem aggA_ok {u:Ty} {l:AV} {cs:List Value} (hw:Wd B ρ X ck w) (hag:u.isAgg=true) (hm:m ρ X w l cs) (hlen:cs.length=u.size) (h1:∀ c∈cs,c.oneCell'=true):m ρ X w (aggA ck u l) [.agg cs.toArray]:=by
 unfold aggA
 split
 ·rename_i a k e
  have:=(asDats_ok hw.none (fun b h=>h) (fun x hx=>by cases hx) e hm).1
  rw [List.take_of_length_le (by omega)] at this
  exact ⟨cs,this,by simp [Ty.wrap,hag]⟩
 ·exact ⟨cs,rfl,hm,h1⟩
theorem aggI_ok {u:Ty} {l:AV} {cs:List Value} (hw:Wd B ρ X ck w) (hag:u.isAgg=true) (hm:m ρ X w l cs) (hlen:cs.length=u.size) (h1:∀ c∈cs,c.oneCell'=true):m ρ X w (aggI an ck u l) [.agg cs.toArray]:=by
 unfold aggI
 split
 ·exact ⟨cs,rfl,hm,h1⟩
 ·exact aggA_ok hw hag hm hlen h1
theorem build_ok (hE:E.Ok) (hw:Wd B ρ X ck w) (hl:∀ x y,look x=some y->m ρ X w y [a.eval x]) {T:TypeId} {e:TE} (he:E.te T=some e) (hag:e.ty.isAgg=true) {parts:Array (Nat×Operand)} {l:AV} (hn:0<e.nf)
    (h:fillA look (plF e) parts.toList (zA e.ty .nil)=some l):∃ z,(Instr.build T (parts.map fun (i,x)=>(i,a.eval x))).run E.P w=.ok z w/\m ρ X w (aggI an ck e.ty l) [z]:=by
 have hf:=hE.fact he
 obtain ⟨fs,hfs,hpl⟩:=plF_ok (E:=E) hf
 have hu:=hfs hn
 obtain ⟨it,hi,hz,hs,_⟩:=hf.info
 have hmm:=hf.m
 unfold structM at hmm
 rw [hu] at hmm
 obtain ⟨places,hp⟩:=Option.isSome_iff_exists.1 hmm
 have hz2:(e.ty.wrap (zc e.ty)).cells=(zc e.ty).toArray:=wrap_cells (zc_len _) (zc_one _)
 have hm0:m ρ X w (zA e.ty .nil) (zc e.ty):=by have:=m_zA (ρ:=ρ) (X:=X) (w:=w) (t:=e.ty) (show m ρ X w .nil [] from rfl); rwa [List.append_nil] at this
 obtain ⟨cells',q1,q2,q3,q4,q5⟩:=fillA_ok hl (place:=(places.toArray[·]?)) (cells:=(zc e.ty).toArray) (fun i o u hiu=>by
  obtain ⟨F,inf,g1,g2,g3,g4⟩:=hpl i o u hiu
  have:=mapM_some_get hp i F (by simpa using g1)
  rw [g3] at this
  simp only [Option.map_some] at this
  rw [g2,g4] at this
  simpa using this.symm) h (isL_zA rfl) (by simpa using hm0) (by simpa using zc_one e.ty)
 refine ⟨.agg cells',run_build w T _ cells' ?_,?_⟩
 ·unfold Program.built
  rw [hi,hu]
  simp only [hz,hp,hz2]
  rw [<-q1]
  simp
 ·have:=aggI_ok (an:=an) (cs:=cells'.toList) hw hag q2 (by simp [q4,zc_len]) q5
  simpa using this
theorem buildA_ok (hE:E.Ok) (hw:Wd B ρ X ck w) (hl:∀ x y,look x=some y->m ρ X w y [a.eval x]) {T:TypeId} {e:TE} (he:E.te T=some e) (hag:e.ty.isAgg=true) {parts:Array (Nat×Operand)} {l:AV} (hty:e.ty=a3T) (h3:isA3 E.P T)
    (h:fillA look plA parts.toList (zA e.ty .nil)=some l):∃ z,(Instr.build T (parts.map fun (i,x)=>(i,a.eval x))).run E.P w=.ok z w/\m ρ X w (aggI an ck e.ty l) [z]:=by
 have hf:=hE.fact he
 obtain ⟨el,inf,hu,_,hie,hse,_⟩:=h3
 obtain ⟨it,hi,hz,hs,_⟩:=hf.info
 have hz2:(e.ty.wrap (zc e.ty)).cells=(zc e.ty).toArray:=wrap_cells (zc_len _) (zc_one _)
 have hm0:m ρ X w (zA e.ty .nil) (zc e.ty):=by have:=m_zA (ρ:=ρ) (X:=X) (w:=w) (t:=e.ty) (show m ρ X w .nil [] from rfl); rwa [List.append_nil] at this
 obtain ⟨cells',q1,q2,q3,q4,q5⟩:=fillA_ok hl (place:=fun i=>some (i*inf.size,inf.size)) (cells:=(zc e.ty).toArray) (fun i o u hiu=>by
  unfold plA at hiu
  split at hiu
  ·cases hiu
   simp [hse,Ty.size]
  ·cases hiu) h (isL_zA rfl) (by simpa using hm0) (by simpa using zc_one e.ty)
 refine ⟨.agg cells',run_build w T _ cells' ?_,?_⟩
 ·unfold Program.built
  rw [hi,hu]
  simp only [hz,hie,hz2]
  rw [<-q1]
  simp
 ·have:=aggI_ok (an:=an) (cs:=cells'.toList) hw hag q2 (by simp [q4,zc_len]) q5
  simpa using this
theorem pop_ok (hE:E.Ok) (hw:Wd B ρ X ck w) (hl:∀ x y,look x=some y->m ρ X w y [a.eval x]) (h:pop E look ck op an=some (r,ps)) (hp:AllP ps) :
    Does E.P a.eval ⟨d,op,ty,pos,af,g⟩ w (fun v w'=>m ρ X w' r [v]/\Below w.heap.size w w'):=by
 unfold pop at h
 split at h
 ·split at h
  ·rename_i e; cases h
   exact does_val (v:=a.eval _) (w':=w) rfl ⟨hl _ _ e,Below.refl _ _⟩
  ·cases h
 ·split at h
  ·rename_i e; cases h
   exact does_val (v:=a.eval _) (w':=w) rfl ⟨hl _ _ e,Below.refl _ _⟩
  ·cases h
 ·split at h
  ·rename_i e
   cases h
   have hx:=hl _ _ e
   obtain ⟨v0,b0,hc,hb,hu⟩:=id hx
   have hu:=(List.cons.inj hu).1
   refine does_val (v:=a.eval _) (w':=w) ?_ ⟨hx,Below.refl _ _⟩
   simp only [execOp,hu]
   rfl
  ·cases h
 ·split at h
  ·rename_i e
   split at h
   ·rename_i en
    cases h
    obtain ⟨us,hu,hm⟩:=hl _ _ e
    obtain ⟨v,hv,hm'⟩:=m_nth en hm
    have hu':=(List.cons.inj hu).1
    refine does_val (v:=v) (w':=w) ?_ ⟨hm',Below.refl _ _⟩
    simp [execOp,hu',Instr.extract,hv]
   ·cases h
  ·cases h
 ·split at h
  ·rename_i e1 e2
   obtain ⟨z,hz,hm⟩:=binA_ok hE h hp (hl _ _ e1) (hl _ _ e2) _ _
   refine does_val (v:=z) (w':=w) ?_ ⟨hm,Below.refl _ _⟩
   simp only [execOp,Sem.run_bind] at hz ⊢
   rw [hz]; rfl
  ·cases h
 ·split at h
  ·rename_i e1
   obtain ⟨z,hz,hm⟩:=unA_ok (E:=E) h hp (hl _ _ e1)
   refine does_val (v:=z) (w':=w) ?_ ⟨hm,Below.refl _ _⟩
   simp only [execOp,Sem.run_bind,hz]; rfl
  ·cases h
 ·split at h
  ·rename_i e1 e2
   obtain ⟨z,hz,hm⟩:=loadA_ok hE hw e2 h hp (hl _ _ e1)
   refine does_val (v:=z) (w':=w) ?_ ⟨hm,Below.refl _ _⟩
   simp only [execOp,Sem.run_bind,hz]; rfl
  ·cases h
 ·split at h
  ·rename_i e1 e2
   obtain ⟨z,hz,hm⟩:=fieldA_ok hE e2 h (hl _ _ e1)
   refine does_val (v:=z) (w':=w) ?_ ⟨hm,Below.refl _ _⟩
   simp only [execOp,Sem.run_bind,hz]; rfl
  ·cases h
 ·split at h
  ·rename_i e1 e2
   obtain ⟨z,hz,hm⟩:=fieldV_ok hE e2 h hp (hl _ _ e1)
   refine does_val (v:=z) (w':=w) ?_ ⟨hm,Below.refl _ _⟩
   simp only [execOp,Sem.run_bind,hz]; rfl
  ·cases h
 ·split at h
  ·rename_i e1 e2
   obtain ⟨z,hz,hm⟩:=indexA_ok hE hw h hp (hl _ _ e1) (hl _ _ e2)
   refine does_val (v:=z) (w':=w) ?_ ⟨hm,Below.refl _ _⟩
   simp only [execOp,Sem.run_bind,hz]; rfl
  ·cases h
 ·split at h
  ·rename_i e1 e2
   obtain ⟨z,hz,hm⟩:=strIx_ok hE h hp (hl _ _ e1) (hl _ _ e2)
   refine does_val (v:=z) (w':=w) ?_ ⟨hm,Below.refl _ _⟩
   simp only [execOp,Sem.run_bind,hz]; rfl
  ·cases h
 ·split at h
  ·rename_i e1
   split at h
   ·obtain ⟨z,hz,hm⟩:=tailA_ok hE hw hl h hp (hl _ _ e1)
    refine does_val (v:=z) (w':=w) ?_ ⟨hm,Below.refl _ _⟩
    simp only [execOp,Sem.run_bind,hz]; rfl
   ·obtain ⟨z,hz,hm⟩:=sliceA_ok hE hw hl h hp (hl _ _ e1)
    refine does_val (v:=z) (w':=w) ?_ ⟨hm,Below.refl _ _⟩
    simp only [execOp,Sem.run_bind,hz]; rfl
  ·cases h
 ·split at h
  ·rename_i e1 e2
   have hS:=(hE.fact e2).und
   obtain ⟨z,w',hz,hm,hb⟩:=convA_ok hE hw h hp (hl _ _ e1) hS
   refine does_val (v:=z) (w':=w') ?_ ⟨hm,hb⟩
   simp only [execOp,Sem.run_bind,hz]; rfl
  ·cases h
 ·exact callA_ok hE hw hl h hp
 ·split at h
  ·rename_i e1
   split at h
   ·rename_i hag
    split at h
    ·rename_i e3
     split at h
     ·rename_i e2
      cases h
      obtain ⟨z,hz,hm⟩:=build_ok hE hw hl e1 hag (Nat.le_of_ble_eq_true e3) e2
      refine does_val (v:=z) (w':=w) ?_ ⟨hm,Below.refl _ _⟩
      simp only [execOp,Sem.run_bind,hz]; rfl
     ·cases h
    ·split at h
     ·rename_i e4
      split at h
      ·rename_i e2
       cases h
       obtain ⟨z,hz,hm⟩:=buildA_ok hE hw hl e1 hag (teq_ty e4) hp.1 e2
       refine does_val (v:=z) (w':=w) ?_ ⟨hm,Below.refl _ _⟩
       simp only [execOp,Sem.run_bind,hz]; rfl
      ·cases h
     ·cases h
   ·cases h
  ·cases h
 ·exact litD_ok hE hw hl h
 ·split at h
  ·rename_i e1 e2
   exact makeD_ok hE hw (hl _ _ e1) (hl _ _ e2) h hp
  ·cases h
 ·split at h
  ·rename_i fst caps _ _ f e1
   split at h
   ·rename_i l e2
    cases h
    have hm:=mL_avsL (argsL_ok hl e2)
    have e1:fst=#[]:=by rw [<-Array.toList_inj]; exact e1
    subst e1
    refine does_val (v:=.func (.func f) #[] (caps.toList.map a.eval).toArray) (w':=w) ?_ ⟨⟨_,rfl,hm⟩,Below.refl _ _⟩
    have earr:caps.map a.eval=(caps.toList.map a.eval).toArray:=by rw [<-Array.toList_inj,Array.toList_map]
    simp [execOp,Instr.makeFunc,earr]
   ·cases h
  ·cases h
 ·cases h
open Classical in
theorem pop_ok' (hE:E.Ok) (hw:Wd B ρ X ck w) (hl:∀ x∈opL op,∀ y,look x=some y->m ρ X w y [a.eval x]) (h:pop E look ck op an=some (r,ps)) (hp:AllP ps) :
    Does E.P a.eval ⟨d,op,ty,pos,af,g⟩ w (fun v w'=>m ρ X w' r [v]/\Below w.heap.size w w'):=by
 rw [pop_congr (look':=fun x=>if x∈opL op then look x else none) (fun x hx=>by simp [hx])] at h
 refine pop_ok hE hw (fun x y hx=>?_) h hp
 split at hx
 ·rename_i e; exact hl _ e _ hx
 ·cases hx
theorem m_strip {x:AV} {v:Value} (hp:AllP (cond x)) (h:m ρ X w x [v]):m ρ X w (strip x) [v]:=by
 unfold strip
 split
 ·obtain ⟨v',e,h1,_⟩:=h
  cases e
  exact h1 hp.1
 ·exact h
variable {sl:List (Nat×AV)}
theorem stripPs_of {t:Nat} {x:AV} (hx:get? sl t=some x):∀ {l:List Operand},.tmp t∈l->AllP (stripPs sl l)->AllP (cond x)
 | .tmp u::l,h,hp=>by
  rcases List.mem_cons.1 h with h|h
  ·cases h
   simp only [stripPs,hx] at hp
   split at hp
   ·rename_i c y e
    cases e
    exact ⟨hp.1,trivial⟩
   ·rename_i hne
    cases x<;>first|exact trivial|exact absurd rfl (hne _ _)
  ·refine stripPs_of hx h ?_
   simp only [stripPs] at hp
   split at hp
   ·exact hp.2
   ·exact hp
 | .const _::l,h,hp=>stripPs_of hx (l:=l) (by simpa using h) hp
 | .global _::l,h,hp=>stripPs_of hx (l:=l) (by simpa using h) hp
 | .func _::l,h,hp=>stripPs_of hx (l:=l) (by simpa using h) hp
theorem lkS_ok {ops:List Operand} (hr:∀ t,.tmp t∈ops->∀ x,get? sl t=some x->m ρ X w x [gt a t]) (hp:AllP (stripPs sl ops)) {x:Operand} (hx:x∈ops) (ho:okO x=true) {y:AV} (h:lkS sl x=some y):m ρ X w y [a.eval x]:=by
 cases x with
 | tmp t =>
  simp only [lkS] at h
  split at h
  ·rename_i z hz
   cases h
   exact m_strip (stripPs_of hz hx hp) (hr t hx _ hz)
  ·cases h
 | const v=>cases h; exact m_cAV ho
 | global g=>cases h
 | func f=>cases h; exact ⟨[],rfl,rfl⟩
theorem lkP_ok {ops:List Operand} (hr:∀ t,.tmp t∈ops->∀ x,get? sl t=some x->m ρ X w x [gt a t]) {x:Operand} (hx:x∈ops) (ho:okO x=true) {y:AV} (h:lk sl x=some y):m ρ X w y [a.eval x]:=by
 cases x with
 | tmp t=>exact hr t hx _ h
 | const v=>cases h; exact m_cAV ho
 | global g=>cases h
 | func f=>cases h; exact ⟨[],rfl,rfl⟩
def okOp (op:Op):Bool:=(opL op).all okO
theorem okOp_of (h:okOp op=true) {x:Operand} (hx:x∈opL op):okO x=true:=List.all_eq_true.1 h x hx
theorem base_ok (hE:E.Ok) (hw:Wd B ρ X ck w) (hok:okOp op=true) (hr:∀ t,.tmp t∈opL op->∀ x,get? sl t=some x->m ρ X w x [gt a t]) (h:base E sl ck op an=some (r,ps)) (hp:AllP ps) :
    Does E.P a.eval ⟨d,op,ty,pos,af,g⟩ w (fun v w'=>m ρ X w' r [v]/\Below w.heap.size w w'):=by
 unfold base at h
 split at h
 ·rename_i c x y
  split at h
  ·rename_i c' x' y' e1 e2 e3
   split at h
   ·rename_i r' ps' e4
    cases h
    obtain ⟨h1,h2⟩:=hp.app
    obtain ⟨b,hb,hm⟩:=pickA_ok e4 h2 (m_strip h1 (lkP_ok hr (by simp [opL]) (okOp_of hok (by simp [opL])) e1)) (lkP_ok hr (by simp [opL]) (okOp_of hok (by simp [opL])) e2) (lkP_ok hr (by simp [opL]) (okOp_of hok (by simp [opL])) e3)
    refine does_val (v:=_) (w':=w) ?_ ⟨hm,Below.refl _ _⟩
    simp [execOp,hb,asBool]
   ·cases h
  ·cases h
 ·split at h
  ·rename_i r' ps' e
   cases h
   obtain ⟨h1,h2⟩:=hp.app
   exact pop_ok' hE hw (fun x hx y hy=>lkS_ok hr h1 hx (okOp_of hok hx) hy) e h2
  ·cases h
theorem Does.imp {P:Program} {σ:Operand->Value} {o:Oper} {R S:Value->World->Prop} (h:Does P σ o w R) (hi:∀ v w',R v w'->S v w'):Does P σ o w S:=by
 unfold Does at *
 split at h
 ·exact hi _ _ h
 ·exact hi _ _ h
 ·exact h.mono fun e w' ⟨v,h1,h2⟩=>⟨v,h1,hi _ _ h2⟩
 ·exact h
theorem baseF_ok (hE:E.Ok) (hw:Wd B ρ X ck w) (hok:okOp op=true) (hr:∀ t,.tmp t∈opL op->∀ x,get? sl t=some x->m ρ X w x [gt a t]) (h:baseF E sl ck op an=some (r,ps)) (hp:AllP ps) :
    Does E.P a.eval ⟨d,op,ty,pos,af,g⟩ w (fun v w'=>m ρ X w' r [v]/\Below w.heap.size w w'):=by
 unfold baseF at h
 split at h
 ·rename_i r' ps' e
  unfold fin at h
  split at h
  ·split at h
   ·cases h
    obtain ⟨h1,h2⟩:=hp.app
    refine Does.imp (base_ok hE hw hok hr e h1) fun v w' ⟨q1,q2⟩=>⟨?_,q2⟩
    rw [m_bool q1,h2.1]; rfl
   ·cases h
  ·cases h
   exact base_ok hE hw hok hr e hp
 ·cases h
theorem beqB_t {b c:Bool} (h:beqB b c=true):b=c:=by cases b<;>cases c<;>simp_all [beqB]
theorem beqB_f {b c:Bool} (h:beqB b c=false):b≠c:=by cases b<;>cases c<;>simp_all [beqB]
theorem ev1_ok (hE:E.Ok) (hw:Wd B ρ X ck w) {ops:Array Oper} {ds:List (Option Nat)} (hds:∀ g:Nat,nthO ds g=(ops[g]?).map Oper.dst) {o:Oper} (hok:okOp o.op=true)
    (hr:∀ t,.tmp t∈opL o.op->∀ x,get? sl t=some x->m ρ X w x [gt a t]) (hg:∀ g w',o.guard=some (g,w')->∀ t,nthO ds g=some (some t)->∀ x,get? sl t=some x->m ρ X w x [gt a t])
    (h:ev1 E sl ck ds o an=some (r,ps)) (hp:AllP ps) :
    (gok ops o a->Does E.P a.eval o w (fun v w'=>m ρ X w' r [v]/\Below w.heap.size w w'))/\(¬gok ops o a->m ρ X w r [undef]):=by
 obtain ⟨d,op,ty,pos,af,g⟩:=o
 unfold ev1 at h
 split at h
 ·rename_i e
  cases e
  exact ⟨fun _=>baseF_ok hE hw hok hr h hp,fun hn=>(hn trivial).elim⟩
 ·rename_i g' want e
  cases e
  split at h
  ·rename_i t ht
   have hd:(ops[g']?).bind (·.dst)=some t:=by
    have ht:=ht
    rw [hds g'] at ht
    cases ho:ops[g']? with
    | none=>rw [ho] at ht; cases ht
    | some o'=>rw [ho] at ht; simpa using ht
   have hgok:gok ops ⟨d,op,ty,pos,af,some (g',want)⟩ a↔gt a t=.bool want:=by
    unfold gok
    simp only [hd,Option.some.injEq,exists_eq_left']
   split at h
   ·rename_i x hx
    have hm:m ρ X w x [gt a t]:=hg g' want rfl t ht _ hx
    split at h
    ·rename_i hgc
     have:gt a t=.bool want:=by
      unfold gcase at hgc
      split at hgc
      ·split at hgc
       ·rename_i e
        rw [<-beqB_t e]
        exact (List.cons.inj hm).1
       ·cases hgc
      ·cases hgc
      ·cases hgc
      ·split at hgc<;>cases hgc
      ·cases hgc
     exact ⟨fun _=>baseF_ok hE hw hok hr h hp,fun hn=>(hn (hgok.2 this)).elim⟩
    ·rename_i hgc
     cases h
     refine ⟨fun hk=>?_,fun _=>rfl⟩
     have hk:=hgok.1 hk
     exfalso
     unfold gcase at hgc
     split at hgc
     ·split at hgc
      ·cases hgc
      ·rename_i e
       have:=(List.cons.inj hm).1
       rw [hk] at this
       cases this
       exact beqB_f e rfl
     ·cases hgc
     ·cases hgc
     ·split at hgc
      ·cases hgc
      ·rename_i c b q e
       obtain ⟨v,e',q1,q2⟩:=hm
       have e':=(List.cons.inj e').1
       subst e'
       by_cases hc:c
       ·have:=(List.cons.inj (q1 hc)).1
        rw [hk] at this
        cases this
        exact beqB_f e rfl
       ·have:=q2 hc
        rw [hk] at this
        cases this
     ·cases hgc
    ·rename_i G hgc
     split at h
     ·rename_i r' ps' hb
      cases h
      have hG:gt a t=.bool want↔G:=by
       unfold gcase at hgc
       split at hgc
       ·split at hgc<;>cases hgc
       ·cases hgc
        rw [m_bool hm]; simp
       ·rename_i c e
        cases hgc
        obtain ⟨v,e',q1,q2⟩:=hm
        have e':=(List.cons.inj e').1
        subst e'
        constructor
        ·intro hk
         by_cases hc:c
         ·have:=m_bool (q1 hc)
          rw [hk] at this
          cases this
          exact ⟨hc,rfl⟩
         ·have:=q2 hc
          rw [hk] at this; cases this
        ·rintro ⟨hc,rfl⟩
         exact m_bool (q1 hc)
       ·split at hgc
        ·rename_i e
         cases hgc
         have e:=beqB_t e
         subst e
         obtain ⟨v,e',q1,q2⟩:=hm
         have e':=(List.cons.inj e').1
         subst e'
         constructor
         ·intro hk
          by_cases hc:G
          ·exact hc
          ·have:=q2 hc
           rw [hk] at this; cases this
         ·intro hc
          exact (List.cons.inj (q1 hc)).1
        ·cases hgc
       ·cases hgc
      refine ⟨fun hk=>?_,fun hn=>?_⟩
      ·have g1:=hG.1 (hgok.1 hk)
       refine Does.imp (baseF_ok hE hw hok hr hb (AllP.under g1 hp)) fun v w' ⟨q1,q2⟩=>⟨⟨v,rfl,fun _=>q1,fun hn=>(hn g1).elim⟩,q2⟩
      ·exact ⟨undef,rfl,fun hg=>(hn (hgok.2 (hG.2 hg))).elim,fun _=>rfl⟩
     ·cases h
    ·cases h
   ·cases h
  ·cases h
end
end Go.Proofs.Ytbokoblnehgkaaa.Gx
