/-
  Base: what it means that a slice value reads as a list of integers in a world, and that this stays so while nothing below the heap's size is written.
-/
import Derived.Test.YtbokoblnehgkaaaRows
import Derived.WalkKit
import Derived.WalkSpells
import Derived.ProofKit
import Derived.OpenShut
import Derived.Below
import Derived.Outline
import Derived.Laws.BitsAllLaws
import Derived.Lib.Hide
import Derived.Lib.SlBytesConst
import Derived.Laws.IdiomStrings
import Derived.Laws.AppendOwnNone
import Derived.Laws.CopyOwn
import Derived.Deep.QuietTactic
import Derived.BigQuiet
import Derived.BigRegion
import Derived.Deep.RegionWith
namespace Go.Proofs.Ytbokoblnehgkaaa.B
open Go.ChangeShapes Go.WideShapes Go.ChangeAt Go.RowKit
theorem ret_int {k:IntKind} {a b:Int} (h:a=b):Ending.returned (.int k a)=.returned (.int k b):=by rw [h]
def Row (k:IntKind) (w:World) (v:Value) (l:List Int):Prop :=
 ∃ (a:Option Addr) (cap:Nat),v=.slice a l.length cap/\l.length<=cap/\cap<=maxLen/\(a=none->cap=0)/\(∀ n∈l,(Lit.int k n).wf=true) /\
  (l≠[]->∃ b off,a=some ⟨b,off,none⟩/\∀ i,i<l.length->w.cell? ⟨b,off+i,none⟩=some (.int k (l.getD i 0)))
def IsRow (k:IntKind) (w:World) (a:Option Addr) (len cap:Nat) (zs:List Int):Prop :=
 (a=none/\len=0/\cap=0/\zs=[]) ∨
 ∃ x,a=some x/\len<=cap/\cap<=maxLen/\zs.length=cap/\(∀ i,i<zs.length->w.cell? (x.add i)=some (.int k (zs.getD i 0)))/\∀ n∈zs,(Lit.int k n).wf=true
theorem getD_take (l:List Int) (n i:Nat) (h:i<n):(l.take n).getD i 0=l.getD i 0:=by
 simp [List.getD_eq_getElem?_getD,h]
theorem Row.of {k:IntKind} {w:World} {a:Option Addr} {len cap:Nat} {zs:List Int} (h:IsRow k w a len cap zs):Row k w (.slice a len cap) (zs.take len):=by
 rcases h with ⟨rfl,rfl,rfl,rfl⟩|⟨x,rfl,hl,hm,hz,hcell,hwz⟩
 ·exact ⟨none,0,rfl,by simp,by simp,by simp,by simp,by simp⟩
 ·have hlen:(zs.take len).length=len:=by simp; omega
  refine ⟨some x,cap,by rw [hlen],by omega,hm,by simp,fun n hn=>hwz n (List.mem_of_mem_take hn),fun hne=>?_⟩
  obtain ⟨b,off,spot⟩:=x
  have hpos:0<len:=by
   rcases Nat.eq_zero_or_pos len with h|h
   ·subst h; simp at hne
   ·exact h
  have hc:=hcell 0 (by omega)
  have hspot:spot=none:=by simpa [Addr.add] using World.cell?_spot hc
  subst hspot
  refine ⟨b,off,rfl,fun i hi=>?_⟩
  rw [hlen] at hi
  have:=hcell i (by omega)
  rw [getD_take _ _ _ hi]
  rw [<-this]
  congr 1
  unfold Addr.add
  split<;>simp_all
theorem Row.lt {k:IntKind} {w:World} {b off:Nat} {v:Int} {i:Nat} (h:w.cell? ⟨b,off+i,none⟩=some (.int k v)):b<w.heap.size:=by
 unfold World.cell? at h
 rcases Nat.lt_or_ge b w.heap.size with hb|hb
 ·exact hb
 ·simp [Array.getElem?_eq_none hb] at h
theorem Row.keep {k:IntKind} {w w':World} {v:Value} {l:List Int} (h:Row k w v l) (hb:Below w.heap.size w w'):Row k w' v l:=by
 obtain ⟨a,cap,rfl,h1,h2,h0,h3,h4⟩:=h
 refine ⟨a,cap,rfl,h1,h2,h0,h3,fun hne=>?_⟩
 obtain ⟨b,off,rfl,hc⟩:=h4 hne
 refine ⟨b,off,rfl,fun i hi=>?_⟩
 rw [hb.cell (p:=⟨b,off+i,none⟩) (Row.lt (hc i hi))]
 exact hc i hi
theorem Row.new {k:IntKind} (w:World) (l:List Int) (t:TypeId) (fr:Nat×Nat) (C:Array Value) (n:Nat) (hC:C=(l.map (Value.int k)).toArray) (hn:n=l.length)
    (hl:l.length<=maxLen) (hw:∀ n∈l,(Lit.int k n).wf=true):Row k (w.alloc (.cells C t fr)) (.slice (some ⟨w.heap.size,0,none⟩) n n) l:=by
 subst hn hC
 refine ⟨_,_,rfl,Nat.le_refl _,hl,by simp,hw,fun _=>⟨_,_,rfl,fun i hi=>?_⟩⟩
 rw [Nat.zero_add,World.cell?_alloc_mark]
 simp [hi]
theorem Row.nil (k:IntKind) (w:World):Row k w (.slice none 0 0) [] :=
 ⟨none,0,rfl,by simp,by simp,by simp,by simp,by simp⟩
theorem Row.ofOwn {k:IntKind} {w:World} {base:Nat} {e:TypeId} {v:Value} {l:List Int} {n:Nat} (h:w.ownsRow base e 1 v n (l.map (Value.int k))) (hw:∀ n∈l,(Lit.int k n).wf=true):Row k w v l:=by
 obtain ⟨hl,h⟩:=h
 have hn:n=l.length:=by simpa using hl.symm
 subst hn
 rcases h with ⟨rfl,h0⟩|⟨g,cap,cur,rfl,_,hb,h1,h2,h3,h4⟩
 ·have:l=[]:=by simpa using h0
  subst this
  exact Row.nil k w
 ·refine ⟨_,cap,rfl,h1,h2,by simp,hw,fun _=>⟨g,0,rfl,fun i hi=>?_⟩⟩
  unfold World.cell?
  rw [hb]
  have hi':i<cur.size:=by omega
  have e1:(cur.toList.take (l.length*1))[i]?=(l.map (Value.int k))[i]?:=by rw [h4]
  rw [List.getElem?_take_of_lt (by omega)] at e1
  simp [hi] at e1
  simp [hi,e1]
theorem own_ge {w:World} {base:Nat} {e:TypeId} {size:Nat} {v:Value} {n:Nat} {xs:List Value} (h:w.ownsRow base e size v n xs):∀ k,v.ownBlock=some k->base<=k:=by
 intro k hk
 rcases h.2 with ⟨rfl,_⟩|⟨g,cap,cur,rfl,hb,_⟩
 ·simp [Value.ownBlock] at hk
 ·simp [Value.ownBlock] at hk; omega
theorem append_row {P:Program} {w:World} {ops:Array Oper} {rest:List Oper} {o:Oper} {a:Act} {Q:Exit->Act->World->Prop} (hgd:o.guard=none) (s x:Operand) (t:TypeId)
    (ho:o.op=.call { callee:=.builtin .append,args:=#[s,x],argTypes:=#[t,t] })
    (base:Nat) (e:TypeId) (k:IntKind) (i:TypeInfo) (z:Value) (bytes:Nat) (ht:P.underlying t=some (.slice e)) (hi:P.info? e=some i) (hz:i.zero=some z)
    (hsize:i.size=1) (hby:i.bytes=bytes) (hzs:z.cells.size=1)
    (v:Value) (n:Nat) (l:List Int) (hs:a.eval s=v) (hown:w.ownsRow base e 1 v n (l.map (Value.int k)))
    (u:Value) (m:List Int) (hx:a.eval x=u) (hrow:Row k w u m)
    (h63:l.length+m.length<=maxLen) (hbytes:(l.length+m.length)*bytes<=140737488355328) (hbase:base<=w.heap.size)
    (h:∀ v' w',w'.ownsRow base e 1 v' (n+m.length) ((l++m).map (Value.int k))->w.grownBy w' v.ownBlock->wpList P ops Q rest (a.put o.dst v') w'):wpList P ops Q (o::rest) a w:=by
 obtain ⟨ad,cap,rfl,h1,h2,h0,h3,h4⟩:=hrow
 have hn:n=l.length:=by have:=hown.1; simpa using this.symm
 subst hn
 rcases ad with _|⟨b,off,sp⟩
 ·have hm:m=[]:=by
    rcases m with _|⟨y,ys⟩
    ·rfl
    ·obtain ⟨_,_,he,_⟩:=h4 (by simp); cases he
  subst hm
  have hc0:=h0 rfl
  subst hc0
  exact wpList_append_own_none hgd s x t ho base e i 1 ht hi v _ _ hs hown hx (h v w (by simpa using hown) ⟨rfl,rfl,rfl,Nat.le_refl _,fun _ _ _=>rfl⟩)
 ·refine wpList_append_own w hgd s x t ho base e i z 1 bytes ht hi hz hsize hby hzs (by decide) v _ _ hs hown ⟨b,off,sp⟩ m.length cap (m.map (Value.int k)) hx (by simp) ?_ ?_ h63 hbytes hbase ?_
  ·intro j y hj
   have hjl:j<m.length:=by
    rcases Nat.lt_or_ge j m.length with h|h
    ·exact h
    ·simp [h] at hj
   obtain ⟨b',off',he,hc⟩:=h4 (by rintro rfl; simp at hjl)
   cases he
   have:=hc j hjl
   simp [hjl] at hj
   subst hj
   have ea:Addr.add ⟨b,off,none⟩ j=⟨b,off+j,none⟩:=by
    unfold Addr.add; split<;>simp_all
   rw [ea,this]
   simp [hjl]
  ·intro y hy
   obtain ⟨n,_,rfl⟩:=List.mem_map.1 hy
   rfl
  ·intro v' w' h5 h6 _
   refine h v' w' ?_ h6
   simpa using h5
theorem own0 (w:World) (e:TypeId) (k:IntKind):(w.alloc (.cells #[] e)).ownsRow w.heap.size e 1 (.slice (some ⟨w.heap.size,0,none⟩) 0 0) 0 (([]:List Int).map (Value.int k)):=by
 refine ⟨rfl,.inr ⟨w.heap.size,0,#[],rfl,Nat.le_refl _,?_,by simp,by simp,rfl,rfl⟩⟩
 show (w.heap.push _)[w.heap.size]?=_
 simp
theorem Row.len {k:IntKind} {w:World} {a:Option Addr} {n cap:Nat} {l:List Int} (h:Row k w (.slice a n cap) l):l.length=n:=by
 obtain ⟨_,_,h,_⟩:=h; cases h; rfl
theorem Row.wf {k:IntKind} {w:World} {v:Value} {l:List Int} (h:Row k w v l):∀ n∈l,(Lit.int k n).wf=true:=by
 obtain ⟨_,_,_,_,_,_,h,_⟩:=h; exact h
theorem own_pos {w:World} {base:Nat} {e:TypeId} {size:Nat} {v:Value} {n:Nat} {xs:List Value} (h:w.ownsRow base e size v n xs) (hn:0<n):∃ g cap,v=.slice (some ⟨g,0,none⟩) n cap/\base<=g:=by
 rcases h.2 with ⟨rfl,h0⟩|⟨g,cap,cur,rfl,hb,_⟩
 ·omega
 ·exact ⟨g,cap,rfl,hb⟩
theorem own_cell {w:World} {base:Nat} {e:TypeId} {k:IntKind} {g n cap:Nat} {l:List Int} (h:w.ownsRow base e 1 (.slice (some ⟨g,0,none⟩) n cap) n (l.map (Value.int k))) (j:Nat) (hj:j<n) :
    w.cell? ⟨g,j,none⟩=some (.int k (l[j]?.getD 0))/\w.frozen? ⟨g,j,none⟩=false:=by
 refine ⟨?_,h.frozenAt j⟩
 have hl:l.length=n:=by have:=h.1; simpa using this
 rw [h.cellAt j (by omega)]
 simp [show j<l.length by omega]
theorem own_store {w:World} {base:Nat} {e:TypeId} {k:IntKind} {g n cap:Nat} {l:List Int} (h:w.ownsRow base e 1 (.slice (some ⟨g,0,none⟩) n cap) n (l.map (Value.int k))) (j:Nat) (x:Int) :
    (w.setCell ⟨g,j,none⟩ (.int k x)).ownsRow base e 1 (.slice (some ⟨g,0,none⟩) n cap) n ((l.set j x).map (Value.int k)):=by
 have:=(h.stored j (.int k x)).1
 rwa [List.map_set]
theorem wf_u32 {n:Int} (h:(Lit.int .u32 n).wf=true):0<=n/\n<4294967296:=by
 have:0<=n/\n<=4294967295:=by simpa [Lit.wf,IntKind.min,IntKind.max,IntKind.signed,IntKind.bits] using h
 omega
theorem wf32 {x:Int} (h:0<=x/\x<4294967296):(Lit.int .u32 x).wf=true:=by
 have:0<=x/\x<=4294967295:=by omega
 simpa [Lit.wf,IntKind.min,IntKind.max,IntKind.signed,IntKind.bits] using this
theorem getD_mem {l:List Int} {i:Nat} (h:i<l.length):l.getD i 0∈l:=by
 rw [List.getD_eq_getElem?_getD,List.getElem?_eq_getElem h]; exact List.getElem_mem h
theorem Row.parts {k:IntKind} {w:World} {v:Value} {l:List Int} (h:Row k w v l):∃ a cap,v=.slice a l.length cap/\l.length<=cap/\cap<=9223372036854775807 /\
    ∀ i,i<l.length->∃ b off,a=some ⟨b,off,none⟩/\w.cell? ⟨b,off+i,none⟩=some (.int k (l[i]?.getD 0))/\(Lit.int k (l[i]?.getD 0)).wf=true:=by
 obtain ⟨a,cap,rfl,h1,h2,_,h3,h4⟩:=h
 unfold maxLen at h2
 refine ⟨a,cap,rfl,h1,by omega,fun i hi=>?_⟩
 obtain ⟨b,off,rfl,hc⟩:=h4 (by intro e; subst e; simp at hi)
 have:=hc i hi
 have hw:=h3 _ (getD_mem hi)
 rw [List.getD_eq_getElem?_getD] at this hw
 exact ⟨b,off,rfl,this,hw⟩
theorem wf8 {x:Int} (h:0<=x/\x<256):(Lit.int .u8 x).wf=true:=by
 have:0<=x/\x<=255:=by omega
 simpa [Lit.wf,IntKind.min,IntKind.max,IntKind.signed,IntKind.bits] using this
theorem made_ints (k:IntKind) (n:Nat):(madeCells (Value.int k 0).cells (n*1)).toList=(List.replicate n (0:Int)).map (Value.int k):=by
 apply List.ext_getElem
 ·simp [madeCells]
 ·intro i h1 h2
  simp [madeCells,Value.cells,Nat.mod_one]
theorem make_row {P:Program} {w:World} {ops:Array Oper} {rest:List Oper} {o:Oper} {a:Act} {Q:Exit->Act->World->Prop} (hgd:o.guard=none) (x y:Operand) (t:TypeId)
    (ho:o.op=Op.makeSlice t x y) (base:Nat) (e:TypeId) (k:IntKind) (bytes:Nat) (ht:P.underlying t=some (.slice e))
    (hinf:(P.info? e).map (fun i=>(i.zero,i.size,i.bytes))=some (some (.int k 0),1,bytes))
    (X:Int) (n:Nat) (hx:a.eval x=.int .i64 X) (hy:a.eval y=.int .i64 X) (hX:X=(n:Int)) (hb:bytes*n<=281474976710656) (hl:n<=maxLen) (hbase:base<=w.heap.size)
    (h:∀ w',w'.ownsRow base e 1 (.slice (some ⟨w.heap.size,0,none⟩) n n) n ((List.replicate n (0:Int)).map (Value.int k))->Below w.heap.size w w'->wpList P ops Q rest (a.put o.dst (.slice (some ⟨w.heap.size,0,none⟩) n n)) w'):wpList P ops Q (o::rest) a w:=by
 obtain ⟨i0,hi,hz0,hz1,hz2⟩:=info_parts hinf
 refine wpList_make_full w hgd x y _ ho base _ i0 _ 1 ht hi hz0 hz1 .i64 .i64 _ _ n hx hy hX hX (by rw [hz2]; exact hb) hl hbase ?_
 intro w' h1 h2
 rw [made_ints] at h1
 exact h w' h1 ((Below.refl _ _).grown h2 (Nat.le_refl _) (by simp))
theorem app_row {P:Program} {w:World} {ops:Array Oper} {rest:List Oper} {o:Oper} {a:Act} {Q:Exit->Act->World->Prop} (hgd:o.guard=none) (s x:Operand) (t:TypeId)
    (ho:o.op=.call { callee:=.builtin .append,args:=#[s,x],argTypes:=#[t,t] })
    (base:Nat) (e:TypeId) (k:IntKind) (bytes:Nat) (ht:P.underlying t=some (.slice e))
    (hinf:(P.info? e).map (fun i=>(i.zero,i.size,i.bytes))=some (some (.int k 0),1,bytes))
    (v:Value) (n:Nat) (l:List Int) (hs:a.eval s=v) (hown:w.ownsRow base e 1 v n (l.map (Value.int k)))
    (u:Value) (m:List Int) (hx:a.eval x=u) (hrow:Row k w u m) (h63:l.length+m.length<=maxLen) (hb:(l.length+m.length)*bytes<=140737488355328) (hbase:base<=w.heap.size)
    (h:∀ v' w',w'.ownsRow base e 1 v' (n+m.length) ((l++m).map (Value.int k))->Below base w w'->wpList P ops Q rest (a.put o.dst v') w'):wpList P ops Q (o::rest) a w:=by
 obtain ⟨i0,hi,hz0,hz1,hz2⟩:=info_parts hinf
 refine append_row hgd s x _ ho base _ k i0 _ bytes ht hi hz0 hz1 hz2 rfl v n l hs hown u m hx hrow h63 hb hbase ?_
 intro v' w' h1 h2
 exact h v' w' h1 ((Below.refl _ _).grown h2 hbase (own_ge hown))
theorem Row.upto {k:IntKind} {w:World} {a:Option Addr} {len cap:Nat} {l:List Int} (h:Row k w (.slice a len cap) l) (n:Nat) (hn:n<=len):Row k w (.slice a n cap) (l.take n):=by
 have hl:=h.len
 obtain ⟨a',cap',he,h1,h2,h0,h3,h4⟩:=h
 cases he
 have hlen:(l.take n).length=n:=by simp; omega
 refine ⟨a,cap,by rw [hlen],by omega,h2,h0,fun x hx=>h3 x (List.mem_of_mem_take hx),fun hne=>?_⟩
 obtain ⟨b,off,rfl,hc⟩:=h4 (by rintro rfl; simp at hne)
 refine ⟨b,off,rfl,fun i hi=>?_⟩
 rw [hlen] at hi
 rw [hc i (by omega),getD_take _ _ _ hi]
theorem copy_full {P:Program} {w:World} {ops:Array Oper} {rest:List Oper} {o:Oper} {a:Act} {Q:Exit->Act->World->Prop} (hgd:o.guard=none) (d s:Operand) (t:TypeId)
    (ho:o.op=.call { callee:=.builtin .copy,args:=#[d,s],argTypes:=#[t,t] })
    (base:Nat) (e:TypeId) (k:IntKind) (bytes:Nat) (ht:P.underlying t=some (.slice e))
    (hinf:(P.info? e).map (fun i=>(i.zero,i.size,i.bytes))=some (some (.int k 0),1,bytes))
    (g n cap:Nat) (l:List Int) (hd:a.eval d=.slice (some ⟨g,0,none⟩) n cap) (hown:w.ownsRow base e 1 (.slice (some ⟨g,0,none⟩) n cap) n (l.map (Value.int k)))
    (u:Value) (m:List Int) (hs:a.eval s=u) (hrow:Row k w u m) (hn:m.length=n)
    (h:∀ w',w'.ownsRow base e 1 (.slice (some ⟨g,0,none⟩) n cap) n (m.map (Value.int k))->Below base w w'->wpList P ops Q rest (a.put o.dst (goInt n)) w'):wpList P ops Q (o::rest) a w:=by
 obtain ⟨i0,hi,hz0,hz1,hz2⟩:=info_parts hinf
 obtain ⟨sp,sc,rfl,h1,h2,h0,h3,h4⟩:=hrow
 rcases hown.2 with ⟨hv,_⟩|⟨g',cap',cur,hv,hbg,hg,hc1,hc2,hc3,hc4⟩
 ·cases hv
 ·simp only [Value.slice.injEq,Option.some.injEq,Addr.mk.injEq,and_true,true_and] at hv
  obtain ⟨rfl,rfl⟩:=hv
  have hcl:cur.toList.length=cap:=by simpa using hc3
  refine wpList_copy_splice hgd d s t t ho e ht (by rw [hi]; simp [hz1]) (some ⟨g,0,none⟩) sp n cap m.length sc hd hs g 0 cur.toList e (by simpa using hg) (m.map (Value.int k)) (by simp [hn]) ?_ (by simp; omega) ?_ base w (Below.refl _ _) hbg ?_
  ·intro hpos
   obtain ⟨b,off,rfl,hc⟩:=h4 (by rintro rfl; simp at hpos)
   refine ⟨rfl,_,rfl,fun j v hj=>?_⟩
   have hjl:j<m.length:=by
    rcases Nat.lt_or_ge j m.length with h|h
    ·exact h
    ·simp [h] at hj
   simp [hjl] at hj
   subst hj
   have ea:Addr.add ⟨b,off,none⟩ j=⟨b,off+j,none⟩:=by
    unfold Addr.add; split<;>simp_all
   rw [ea,hc j hjl]
   simp [hjl]
  ·intro y hy
   obtain ⟨x,_,rfl⟩:=List.mem_map.1 hy
   rfl
  ·intro w' hw hb
   have hml:(m.map (Value.int k)).length=n:=by simp [hn]
   rw [show goInt (m.map (Value.int k)).length=goInt n by rw [hml]]
   refine h w' ⟨by simp [hn],.inr ⟨g,cap,_,rfl,hbg,hw.out,hc1,hc2,?_,?_⟩⟩ hb
   ·simp [splice]; omega
   ·simp [splice,hn]
def Fresh (t:TypeId) (base:Nat) (w:World) (v:Value):Prop :=
 ∀ b off sp n c,v=.slice (some ⟨b,off,sp⟩) n c->base<=b/\∃ cur,w.heap[b]?=some (.cells cur t (0,0))
theorem Fresh.nil (t:TypeId) (base:Nat) (w:World):Fresh t base w (.slice none 0 0):=by intro b off sp n c h; cases h
theorem own_fresh {w:World} {base:Nat} {e:TypeId} {size:Nat} {v:Value} {n:Nat} {xs:List Value} (h:w.ownsRow base e size v n xs):Fresh e base w v:=by
 intro b off sp m c hv
 rcases h.2 with ⟨rfl,_⟩|⟨g,cap,cur,rfl,hb,hg,_⟩
 ·cases hv
 ·simp only [Value.slice.injEq,Option.some.injEq,Addr.mk.injEq] at hv
  obtain ⟨⟨rfl,rfl,rfl⟩,rfl,rfl⟩:=hv
  exact ⟨hb,cur,hg⟩
theorem Fresh.cut {t:TypeId} {base:Nat} {w:World} {a:Option Addr} {n c m d:Nat} (h:Fresh t base w (.slice a n c)):Fresh t base w (.slice a m d):=by
 intro b off sp n' c' hv
 simp only [Value.slice.injEq] at hv
 obtain ⟨rfl,rfl,rfl⟩:=hv
 exact h b off sp n c rfl
theorem heap_lt {w:World} {b:Nat} {o:Obj} (h:w.heap[b]?=some o):b<w.heap.size:=by
 rcases Nat.lt_or_ge b w.heap.size with h1|h1
 ·exact h1
 ·rw [Array.getElem?_eq_none h1] at h; cases h
theorem Fresh.keep {t:TypeId} {base:Nat} {w w':World} {v:Value} (h:Fresh t base w v) (hb:Below w.heap.size w w'):Fresh t base w' v:=by
 intro b off sp n c hv
 obtain ⟨h1,cur,h2⟩:=h b off sp n c hv
 exact ⟨h1,cur,by rw [hb.block b (heap_lt h2)]; exact h2⟩
theorem Fresh.mono {t:TypeId} {base base':Nat} {w:World} {v:Value} (h:Fresh t base w v) (hb:base'<=base):Fresh t base' w v:=by
 intro b off sp n c hv
 obtain ⟨h1,h2⟩:=h b off sp n c hv
 exact ⟨by omega,h2⟩
def Only (g:Nat) (w w':World):Prop:=w.grownBy w' (some g)
theorem Only.refl (g:Nat) (w:World):Only g w w:=⟨rfl,rfl,rfl,Nat.le_refl _,fun _ _ _=>rfl⟩
theorem Only.trans {g:Nat} {a b c:World} (h:Only g a b) (k:Only g b c):Only g a c :=
 ⟨k.os.trans h.os,k.tape.trans h.tape,k.output.trans h.output,Nat.le_trans h.size k.size,fun i hi hne=>(k.block i (Nat.lt_of_lt_of_le hi h.size) hne).trans (h.block i hi hne)⟩
theorem Only.set {g:Nat} {a w:World} (h:Only g a w) (j:Nat) (u:Value):Only g a (w.setCell ⟨g,j,none⟩ u) :=
 h.trans ⟨rfl,rfl,rfl,by simp,fun k hk hne=>Below.heap_setCell w _ u k (fun e=>hne (by subst e; rfl))⟩
theorem Only.below {g base:Nat} {w w':World} (h:Only g w w') (h1:base<=w.heap.size) (h2:base<=g):Below base w w' :=
 (Below.refl _ _).grown h h1 (fun k hk=>by cases hk; exact h2)
theorem Only.of_below {g:Nat} {w w':World} (h:Below w.heap.size w w'):Only g w w':=⟨h.os,h.tape,h.output,h.size,fun k hk _=>h.block k hk⟩
theorem own_other {base:Nat} {e:TypeId} {size:Nat} {g n cap:Nat} {xs:List Value} {w w':World} (h:w.ownsRow base e size (.slice (some ⟨g,0,none⟩) n cap) n xs) (hb:w'.heap[g]?=w.heap[g]?) :
    w'.ownsRow base e size (.slice (some ⟨g,0,none⟩) n cap) n xs:=by
 refine ⟨h.1,?_⟩
 rcases h.2 with ⟨h',_⟩|⟨g',cap',cur,h',h1,h2,h3⟩
 ·cases h'
 ·refine .inr ⟨g',cap',cur,h',h1,?_,h3⟩
  simp only [Value.slice.injEq,Option.some.injEq,Addr.mk.injEq] at h'
  obtain ⟨⟨rfl,_⟩,_⟩:=h'
  rw [hb]; exact h2
theorem own_lt {base:Nat} {e:TypeId} {size:Nat} {g n cap:Nat} {xs:List Value} {w:World} (h:w.ownsRow base e size (.slice (some ⟨g,0,none⟩) n cap) n xs):g<w.heap.size/\base<=g:=by
 rcases h.2 with ⟨h',_⟩|⟨g',cap',cur,h',h1,h2,h3⟩
 ·cases h'
 ·simp only [Value.slice.injEq,Option.some.injEq,Addr.mk.injEq] at h'
  obtain ⟨⟨rfl,_⟩,_⟩:=h'
  refine ⟨?_,h1⟩
  rcases Nat.lt_or_ge g w.heap.size with h|h
  ·exact h
  ·rw [Array.getElem?_eq_none h] at h2; cases h2
theorem own_win {w:World} {base:Nat} {e:TypeId} {k:IntKind} {g n cap:Nat} {l:List Int} (h:w.ownsRow base e 1 (.slice (some ⟨g,0,none⟩) n cap) n (l.map (Value.int k))) (hw:∀ n∈l,(Lit.int k n).wf=true)
    (j m c:Nat) (hj:j+m<=n) (hm:m<=c) (hc:c<=maxLen):Row k w (.slice (some ⟨g,j,none⟩) m c) ((l.drop j).take m):=by
 have hl:l.length=n:=by have:=h.1; simpa using this
 have hlen:((l.drop j).take m).length=m:=by simp; omega
 refine ⟨_,c,by rw [hlen],by omega,hc,by simp,fun x hx=>hw x (List.mem_of_mem_drop (List.mem_of_mem_take hx)),fun _=>⟨g,j,rfl,fun i hi=>?_⟩⟩
 rw [hlen] at hi
 rw [h.cellAt (j+i) (by omega)]
 simp [show j+i<l.length by omega,hi]
theorem app_row2 {P:Program} {w:World} {ops:Array Oper} {rest:List Oper} {o:Oper} {a:Act} {Q:Exit->Act->World->Prop} (hgd:o.guard=none) (s x:Operand) (t:TypeId)
    (ho:o.op=.call { callee:=.builtin .append,args:=#[s,x],argTypes:=#[t,t] })
    (base:Nat) (e:TypeId) (k:IntKind) (bytes:Nat) (ht:P.underlying t=some (.slice e))
    (hinf:(P.info? e).map (fun i=>(i.zero,i.size,i.bytes))=some (some (.int k 0),1,bytes))
    (v:Value) (n:Nat) (l:List Int) (hs:a.eval s=v) (hown:w.ownsRow base e 1 v n (l.map (Value.int k)))
    (u:Value) (m:List Int) (hx:a.eval x=u) (hrow:Row k w u m) (h63:l.length+m.length<=maxLen) (hb:(l.length+m.length)*bytes<=140737488355328) (hbase:base<=w.heap.size)
    (h:∀ v' w',w'.ownsRow base e 1 v' (n+m.length) ((l++m).map (Value.int k))->w.grownBy w' v.ownBlock->Below base w w'->wpList P ops Q rest (a.put o.dst v') w'):wpList P ops Q (o::rest) a w:=by
 obtain ⟨i0,hi,hz0,hz1,hz2⟩:=info_parts hinf
 refine append_row hgd s x _ ho base _ k i0 _ bytes ht hi hz0 hz1 hz2 rfl v n l hs hown u m hx hrow h63 hb hbase ?_
 intro v' w' h1 h2
 exact h v' w' h1 h2 ((Below.refl _ _).grown h2 hbase (own_ge hown))
theorem Fresh.other {t e:TypeId} {base base':Nat} {w w':World} {v u:Value} {size m:Nat} {xs:List Value} (h:Fresh t base w v) (ho:w.ownsRow base' e size u m xs) (hne:e≠t) (hg:w.grownBy w' u.ownBlock) :
    Fresh t base w' v/\∀ b off sp n c,v=.slice (some ⟨b,off,sp⟩) n c->w'.heap[b]?=w.heap[b]?:=by
 have key:∀ b off sp n c,v=.slice (some ⟨b,off,sp⟩) n c->w'.heap[b]?=w.heap[b]?:=by
  intro b off sp n c hv
  obtain ⟨h1,cur,h2⟩:=h b off sp n c hv
  refine hg.block b (heap_lt h2) ?_
  rcases ho.2 with ⟨rfl,_⟩|⟨g,cap,cur',rfl,_,hg',_⟩
  ·simp [Value.ownBlock]
  ·simp only [Value.ownBlock]
   intro e1
   simp only [Option.some.injEq] at e1
   subst e1
   rw [h2] at hg'
   simp only [Option.some.injEq,Obj.cells.injEq] at hg'
   exact hne hg'.2.1.symm
 refine ⟨?_,key⟩
 intro b off sp n c hv
 obtain ⟨h1,cur,h2⟩:=h b off sp n c hv
 exact ⟨h1,cur,by rw [key b off sp n c hv]; exact h2⟩
theorem Row.of_heap {k:IntKind} {w w':World} {v:Value} {l:List Int} (h:Row k w v l) (hh:∀ b off sp n c,v=.slice (some ⟨b,off,sp⟩) n c->w'.heap[b]?=w.heap[b]?):Row k w' v l:=by
 obtain ⟨a,cap,rfl,h1,h2,h0,h3,h4⟩:=h
 refine ⟨a,cap,rfl,h1,h2,h0,h3,fun hne=>?_⟩
 obtain ⟨b,off,rfl,hc⟩:=h4 hne
 refine ⟨b,off,rfl,fun i hi=>?_⟩
 rw [<-hc i hi]
 exact World.cell?_of_block (hh b off none _ _ rfl)
end Go.Proofs.Ytbokoblnehgkaaa.B
