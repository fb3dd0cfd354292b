/-
  I0, I1, I2, in one text: see the remarks at the head of each part.
-/
import Derived.Test.YtdobkkhncfifeacGreatMTw
import Derived.Shelf.Spec.SlicesInsert
import Derived.Lib.AppendZerosOnto
import Derived.Laws.NewBlocks
import Derived.Laws.CopyOwn
import Derived.Test.YtdobkkhncfifeacGreatMV
namespace Go.Proofs.YtdobkkhncfifeacGreat.Gx
open Go Go.RowKit Go.Lib
set_option linter.unusedVariables false
set_option linter.unusedSimpArgs false
variable {P:Program}
theorem run_copy_sz (w:World) (dT sT ty elem:TypeId) (sz k b o dLen dCap:Nat) (a:Addr) (sLen sCap:Nat) (cs:List Value)
    (hu:P.underlying dT=some (.slice elem)) (hs:(P.info? elem).map (·.size)=some sz) (hk:k=Nat.min sLen dLen) (hn:cs.length=k*sz)
    (hsrc:∀ j v,cs[j]?=some v->w.cell? (a.add j)=some v) (hc:∀ j,j<cs.length->(w.cell? ⟨b,o+j,none⟩).isSome=true) (hf:∀ j,j<cs.length->w.frozen? ⟨b,o+j,none⟩=false) (h1:∀ v∈cs,v.oneCell'=true) :
    (Builtin.copy_ #[dT,sT] ty #[.slice (some ⟨b,o,none⟩) dLen dCap,.slice (some a) sLen sCap]).run P w=.ok (goInt k) (w.setCells b o cs):=by
 have hl:=run_loadCells_list (P:=P) w a cs hsrc
 have hst:=run_storeCells_cells (P:=P) b o cs 0 w (by simpa using hc) (by simpa using hf) h1
 cases hq:P.info? elem with
 | none=>simp [hq] at hs
 | some i =>
  have hi:i.size=sz:=by simpa [hq] using hs
  rw [hn] at hl
  simp [Builtin.copy_,run_underlying hu,Builtin.lenOf,Builtin.firstCells,sizeOf,typeInfo,hq,hi,<-hk,hl,hst]
def putR (cur:List Value) (o:Nat) (vs:List Value):List Value:=cur.take o++vs++cur.drop (o+vs.length)
theorem putR_len {cur vs:List Value} {o:Nat} (h:o+vs.length<=cur.length):(putR cur o vs).length=cur.length:=by
 unfold putR
 simp only [List.length_append,List.length_take,List.length_drop]
 omega
theorem putR_cons {cur r:List Value} {o:Nat} {v:Value} (h:o<cur.length):putR (cur.set o v) (o+1) r=putR cur o (v::r):=by
 unfold putR
 have e1:(cur.set o v).take (o+1)=cur.take o++[v]:=by
  rw [List.take_add_one,List.take_set,List.getElem?_set_self h]
  have:(cur.take o).set o v=cur.take o:=List.set_eq_of_length_le (by rw [List.length_take]; omega)
  rw [this]; rfl
 have e2:(cur.set o v).drop (o+1+r.length)=cur.drop (o+(v::r).length):=by
  rw [List.drop_set_of_lt (by omega)]
  congr 1
  rw [List.length_cons]; omega
 rw [e1,e2]
 simp
structure Wr (w w':World) (g:Nat) (cur:List Value) (T:TypeId):Prop where
 at':w'.heap[g]?=some (.cells cur.toArray T (0,0))
 block:∀ k,k≠g->w'.heap[k]?=w.heap[k]?
 size:w'.heap.size=w.heap.size
 os:w'.os=w.os
 tape:w'.tape=w.tape
 output:w'.output=w.output
theorem setCell_wr {w:World} {g o:Nat} {cur:List Value} {T:TypeId} {v:Value} (h:w.heap[g]?=some (.cells cur.toArray T (0,0))):Wr w (w.setCell ⟨g,o,none⟩ v) g (cur.set o v) T:=by
 refine ⟨?_,fun k hk=>?_,?_,rfl,rfl,rfl⟩
 ·simp only [World.setCell,Array.getElem?_modify,if_pos rfl,h,Option.map_some]
  simp
 ·simp only [World.setCell,Array.getElem?_modify]
  rw [if_neg (fun e=>hk e.symm)]
 ·simp [World.setCell]
theorem setCells_wr {g:Nat} {T:TypeId}:∀ (vs:List Value) (o:Nat) (w:World) (cur:List Value),w.heap[g]?=some (.cells cur.toArray T (0,0))->o+vs.length<=cur.length->Wr w (w.setCells g o vs) g (putR cur o vs) T
 | [],o,w,cur,h,hl=>⟨by rw [show putR cur o []=cur by simp [putR]]; exact h,fun _ _=>rfl,rfl,rfl,rfl,rfl⟩
 | v::r,o,w,cur,h,hl=>by
  rw [List.length_cons] at hl
  have h1:=setCell_wr (o:=o) (v:=v) h
  have h2:=setCells_wr r (o+1) (w.setCell ⟨g,o,none⟩ v) (cur.set o v) h1.at' (by rw [List.length_set]; omega)
  rw [putR_cons (by omega)] at h2
  exact ⟨h2.at',fun k hk=>(h2.block k hk).trans (h1.block k hk),h2.size.trans h1.size,h2.os.trans h1.os,h2.tape.trans h1.tape,h2.output.trans h1.output⟩
theorem cellI {w:World} {g o:Nat} {cur:List Value} {T:TypeId} (h:w.heap[g]?=some (.cells cur.toArray T (0,0))):w.cell? ⟨g,o,none⟩=cur[o]?:=by
 unfold World.cell?
 rw [h]
 simp
theorem frozenI {w:World} {g o:Nat} {cur:List Value} {T:TypeId} (h:w.heap[g]?=some (.cells cur.toArray T (0,0))):w.frozen? ⟨g,o,none⟩=false:=by
 unfold World.frozen?
 rw [h]
 simp
theorem ins_room {A C ys rest:List Value} (h:ys.length<=rest.length):putR (putR (A++C++rest) (A.length+ys.length) C) A.length ys=A++ys++C++rest.drop ys.length:=by
 have e1:putR (A++C++rest) (A.length+ys.length) C=(A++(C++rest).take ys.length)++C++rest.drop ys.length:=by
  unfold putR
  congr 1
  ·congr 1
   rw [List.append_assoc,List.take_append,List.take_of_length_le (by omega)]
   congr 2
   omega
  ·rw [List.append_assoc,List.drop_append,List.drop_append,List.drop_of_length_le (by omega),List.drop_of_length_le (by omega),List.nil_append,List.nil_append]
   congr 1
   omega
 rw [e1]
 have hl:((C++rest).take ys.length).length=ys.length:=by
  rw [List.length_take,List.length_append]; omega
 have e2:A++(C++rest).take ys.length++C++rest.drop ys.length=A++((C++rest).take ys.length++(C++rest.drop ys.length)):=by simp
 rw [e2]
 unfold putR
 rw [List.take_left,List.drop_append,List.drop_of_length_le (by omega),List.nil_append,Nat.add_sub_cancel_left]
 have e3:((C++rest).take ys.length++(C++rest.drop ys.length)).drop ys.length=C++rest.drop ys.length:=by
  exact List.drop_left' hl
 rw [e3]
 simp
theorem ins_new {A C ys Z:List Value} (h:ys.length+C.length<=Z.length):putR (putR (A++Z) A.length ys) (A.length+ys.length) C=A++ys++C++Z.drop (ys.length+C.length):=by
 have e1:putR (A++Z) A.length ys=(A++ys)++Z.drop ys.length:=by
  unfold putR
  rw [List.take_left,List.drop_append,List.drop_of_length_le (by omega),List.nil_append]
  congr 2
  omega
 rw [e1]
 unfold putR
 rw [<-List.length_append,List.take_left,List.drop_append,List.drop_of_length_le (by omega),List.nil_append,List.drop_drop]
 congr 2
 omega
theorem zero_size (z:Array Value):∀ k,(Builtin.zeroCells z k).size=k*z.size:=by
 intro k
 simp [Builtin.zeroCells]
theorem mul_sub1 {n i s:Nat} (h:i<=n):n*s=i*s+(n-i)*s:=by rw [<-Nat.add_mul]; congr 1; omega
theorem own_shift {w:World} {T:TypeId} {sz g n cap i:Nat} {cur:Array Value} {xs ys:List Value} (hg:w.heap[g]?=some (.cells cur T (0,0))) (hcs:cur.size=cap*sz) (hx:cur.toList.take (n*sz)=xs)
    (hi:i<=n) (hroom:n+1<=cap) (hcm:cap<=maxLen) (hy:ys.length=sz) :
    ((w.drew.setCells g ((i+1)*sz) (xs.drop (i*sz))).setCells g (i*sz) ys).ownsRow 0 T sz (.slice (some ⟨g,0,none⟩) (n+1) cap) (n+1) (xs.take (i*sz)++ys++xs.drop (i*sz)) /\
     w.grownBy ((w.drew.setCells g ((i+1)*sz) (xs.drop (i*sz))).setCells g (i*sz) ys) (some g):=by
 have e1:=mul_sub1 (s:=sz) hi
 have e2:=mul_sub1 (s:=sz) hroom
 have e3:(n+1)*sz=n*sz+sz:=by rw [Nat.succ_mul]
 have e4:(i+1)*sz=i*sz+sz:=by rw [Nat.succ_mul]
 have hl:cur.toList.length=cap*sz:=by simpa using hcs
 have hxl:xs.length=n*sz:=by rw [<-hx,List.length_take]; omega
 have hcur:cur.toList=xs.take (i*sz)++xs.drop (i*sz)++cur.toList.drop (n*sz):=by
  rw [List.take_append_drop,<-hx,List.take_append_drop]
 have hA:(xs.take (i*sz)).length=i*sz:=by rw [List.length_take]; omega
 have hC:(xs.drop (i*sz)).length=(n-i)*sz:=by rw [List.length_drop]; omega
 have hR:(cur.toList.drop (n*sz)).length=cap*sz-n*sz:=by rw [List.length_drop,hl]
 have w1:=setCells_wr (g:=g) (T:=T) (xs.drop (i*sz)) ((i+1)*sz) w.drew cur.toList (by show w.heap[g]?=_; rw [hg]) (by omega)
 have w2:=setCells_wr (g:=g) (T:=T) ys (i*sz) _ _ w1.at' (by rw [putR_len (by omega)]; omega)
 have hfin:putR (putR cur.toList ((i+1)*sz) (xs.drop (i*sz))) (i*sz) ys=xs.take (i*sz)++ys++xs.drop (i*sz)++(cur.toList.drop (n*sz)).drop sz:=by
  have:=ins_room (A:=xs.take (i*sz)) (C:=xs.drop (i*sz)) (ys:=ys) (rest:=cur.toList.drop (n*sz)) (by omega)
  rw [<-hcur,hA,hy,<-e4] at this
  exact this
 have hlen:(xs.take (i*sz)++ys++xs.drop (i*sz)).length=(n+1)*sz:=by
  rw [List.length_append,List.length_append]; omega
 refine ⟨⟨hlen,.inr ⟨g,cap,_,rfl,Nat.zero_le _,w2.at',hroom,hcm,?_,?_⟩⟩,w2.os.trans w1.os,w2.tape.trans w1.tape,w2.output.trans w1.output,?_,fun k hk hne=>?_⟩
 ·rw [List.size_toArray,putR_len (by rw [putR_len (by omega)]; omega),putR_len (by omega)]; exact hl
 ·show (putR _ _ _).take _=_
  rw [hfin,List.take_left' hlen]
 ·rw [w2.size,w1.size]; exact Nat.le_refl _
 ·have hkg:k≠g:=fun e=>hne (by rw [e])
  rw [w2.block k hkg,w1.block k hkg]
  rfl
theorem own_grow {w:World} {T:TypeId} {sz n G i:Nat} {xs ys:List Value} {Z1 Z2:Array Value} (hxl:xs.length=n*sz) (hi:i<=n) (hG:n+1<=G) (hGm:G<=maxLen) (hy:ys.length=sz)
    (hZ1:Z1.size=(n+1-i)*sz) (hZ2:Z2.size=(G-(n+1))*sz) :
    ((((w.alloc (.cells ((xs.take (i*sz)).toArray++Z1++Z2) T)).drew.setCells w.heap.size (i*sz) ys).drew).setCells w.heap.size ((i+1)*sz) (xs.drop (i*sz))).ownsRow 0 T sz (.slice (some ⟨w.heap.size,0,none⟩) (n+1) G) (n+1) (xs.take (i*sz)++ys++xs.drop (i*sz)) /\
     w.grownBy ((((w.alloc (.cells ((xs.take (i*sz)).toArray++Z1++Z2) T)).drew.setCells w.heap.size (i*sz) ys).drew).setCells w.heap.size ((i+1)*sz) (xs.drop (i*sz))) none:=by
 have e1:=mul_sub1 (s:=sz) hi
 have e2:=mul_sub1 (s:=sz) (show i<=n+1 by omega)
 have e5:=mul_sub1 (s:=sz) hG
 have e3:(n+1)*sz=n*sz+sz:=by rw [Nat.succ_mul]
 have e4:(i+1)*sz=i*sz+sz:=by rw [Nat.succ_mul]
 have hA:(xs.take (i*sz)).length=i*sz:=by rw [List.length_take]; omega
 have hC:(xs.drop (i*sz)).length=(n-i)*sz:=by rw [List.length_drop]; omega
 have hz1:Z1.toList.length=(n+1-i)*sz:=by simpa using hZ1
 have hz2:Z2.toList.length=(G-(n+1))*sz:=by simpa using hZ2
 have hrow:((xs.take (i*sz)).toArray++Z1++Z2)=(xs.take (i*sz)++(Z1.toList++Z2.toList)).toArray:=by
  apply Array.ext'
  simp
 rw [hrow]
 have hzl:(Z1.toList++Z2.toList).length=(n+1-i)*sz+(G-(n+1))*sz:=by rw [List.length_append,hz1,hz2]
 have hrl:(xs.take (i*sz)++(Z1.toList++Z2.toList)).length=G*sz:=by rw [List.length_append]; omega
 have h0:(w.alloc (.cells (xs.take (i*sz)++(Z1.toList++Z2.toList)).toArray T)).drew.heap[w.heap.size]?=some (.cells (xs.take (i*sz)++(Z1.toList++Z2.toList)).toArray T (0,0)):=by
  show (w.heap.push _)[w.heap.size]?=_
  exact Array.getElem?_push_size
 generalize hw1:(w.alloc (.cells (xs.take (i*sz)++(Z1.toList++Z2.toList)).toArray T)).drew=W at h0 ⊢
 have w1:=setCells_wr (g:=w.heap.size) (T:=T) ys (i*sz) W _ h0 (by omega)
 have w2:=setCells_wr (g:=w.heap.size) (T:=T) (xs.drop (i*sz)) ((i+1)*sz) (W.setCells w.heap.size (i*sz) ys).drew _ w1.at' (by rw [putR_len (by omega)]; omega)
 have hfin:putR (putR (xs.take (i*sz)++(Z1.toList++Z2.toList)) (i*sz) ys) ((i+1)*sz) (xs.drop (i*sz))=xs.take (i*sz)++ys++xs.drop (i*sz)++(Z1.toList++Z2.toList).drop (sz+(n-i)*sz):=by
  have:=ins_new (A:=xs.take (i*sz)) (C:=xs.drop (i*sz)) (ys:=ys) (Z:=Z1.toList++Z2.toList) (by omega)
  rw [hA,hy,<-e4,hC] at this
  exact this
 have hlen:(xs.take (i*sz)++ys++xs.drop (i*sz)).length=(n+1)*sz:=by
  rw [List.length_append,List.length_append]; omega
 refine ⟨⟨hlen,.inr ⟨w.heap.size,G,_,rfl,Nat.zero_le _,w2.at',hG,hGm,?_,?_⟩⟩,?_,?_,?_,?_,fun k hk hne=>?_⟩
 ·rw [List.size_toArray,putR_len (by rw [putR_len (by omega)]; omega),putR_len (by omega)]; exact hrl
 ·show (putR _ _ _).take _=_
  rw [hfin,List.take_left' hlen]
 ·refine w2.os.trans (w1.os.trans ?_); rw [<-hw1]; rfl
 ·refine w2.tape.trans (w1.tape.trans ?_); rw [<-hw1]; rfl
 ·refine w2.output.trans (w1.output.trans ?_); rw [<-hw1]; rfl
 ·rw [w2.size]
  show w.heap.size<=(W.setCells w.heap.size (i*sz) ys).heap.size
  rw [w1.size,<-hw1]
  show w.heap.size<=(w.heap.push _).size
  simp
 ·have hkg:k≠w.heap.size:=by omega
  rw [w2.block k hkg]
  show (W.setCells w.heap.size (i*sz) ys).heap[k]?=_
  rw [w1.block k hkg,<-hw1]
  show (w.heap.push _)[k]?=_
  rw [Array.getElem?_push_lt hk,Array.getElem?_eq_getElem hk]
end Go.Proofs.YtdobkkhncfifeacGreat.Gx
namespace Go.Proofs.YtdobkkhncfifeacGreat.Gx
open Go Go.RowKit Go.Lib Tw B Nt
set_option linter.unusedVariables false
set_option linter.unusedSimpArgs false
theorem insIB:(Tryz.prog.info? 22).map (fun i=>(i.zero,i.size,i.bytes))=some (some (.slice none 0 0),1,24):=by kernel_rfl
set_option maxHeartbeats 4000000 in
set_option maxRecDepth 100000 in
theorem insB_shift (b off n c i vb voff m vc:Nat) (cs vs:List Value) (w:World) (hi:i<n) (hm:0<m) (hroom:n+m<=c) (hc63:c<=9223372036854775807) (hvb:vb≠b)
    (hcl:cs.length=n) (hvl:vs.length=m)
    (hcs:∀ j v,cs[j]?=some v->w.cell? ⟨b,off+j,none⟩=some v) (hsp:∀ j,j<(n+m)->(w.cell? ⟨b,off+j,none⟩).isSome=true) (hfz:∀ j,j<(n+m)->w.frozen? ⟨b,off+j,none⟩=false)
    (hvs:∀ j v,vs[j]?=some v->w.cell? ⟨vb,voff+j,none⟩=some v) (h1c:∀ v∈cs,v.oneCell'=true) (h1v:∀ v∈vs,v.oneCell'=true)
    (tA tB:TypeId) (kA kB:Nat) (hsa:w.shape? vb=some (tA,kA)) (hsb:w.shape? b=some (tB,kB)) (hkB:kB≠0) (hfa:w.frozen? ⟨vb,voff,none⟩=false) (hfe:w.frozen? ⟨vb,kA,none⟩=false) :
    Calls Tryz.prog 79 #[.slice (some ⟨b,off,none⟩) n c,.int .i64 i,.slice (some ⟨vb,voff,none⟩) m vc] w fun e w' =>
     e=.returned (.slice (some ⟨b,off,none⟩) (n+m) c)/\w'=(w.drew.setCells b (off+(i+m)) (cs.drop (i))).setCells b (off+i) vs:=by
 obtain ⟨i0,hi0,hz0,hzs,hzb⟩:=info_parts insIB
 have hu:Tryz.prog.underlying 60=some (.slice 22):=by kernel_rfl
 have hz1:¬((m:Int)=0):=by omega
 have hz2:¬((i:Int)=(n:Int)):=by omega
 have hsz:(Tryz.prog.info? 22).map (·.size)=some 1:=by rw [hi0]; simp [hzs]
 have hzsz:∀ w,(Go.sizeOf 22).run Tryz.prog w=.ok 1 w:=fun w=>by simp [sizeOf,typeInfo,hi0,hzs]
 have hov:∀ lb cb,(callFunc 105 #[.slice (some ⟨vb,voff,none⟩) m vc,.slice (some ⟨b,off+(i+m),none⟩) lb cb]).run Tryz.prog w=.ok (.value (.bool false)) w:=fun lb cb=>by
  rw [run_callFunc_extern Tryz.func105 (by kernel_rfl) (by kernel_rfl) (by kernel_rfl) (e:=Extern.SlicesOverlaps.overlaps #[60,60] #[4]) (by kernel_rfl),
   Lib.run_overlaps_apart w 60 4 22 hu 1 hzsz ⟨vb,voff,none⟩ ⟨b,off+(i+m),none⟩ m vc lb cb hvb tA tB kA kB hsa hsb hkB hfa hfe]
  rfl
 have hdl:(cs.drop (i)).length=(n-i):=by rw [List.length_drop,hcl]
 have hw1:IntKind.i64.wrap ((i:Int)+(m:Int))=(i:Int)+(m:Int):=by rw [IntKind.wrap_i64]; omega
 have hw2:IntKind.i64.wrap ((n:Int)+(m:Int))=(n:Int)+(m:Int):=by rw [IntKind.wrap_i64]; omega
 have hb1:(0:Int)<=(i:Int)+(m:Int):=by omega
 have hin:i<=n:=by omega
 have htn:((i:Int)+(m:Int)).toNat=i+m:=by omega
 have htn2:((n:Int)+(m:Int)).toNat=n+m:=by omega
 have hb2:¬(c=i+m):=by omega
 have hb3:(i:Int)<=(n:Int)+(m:Int):=by omega
 have hb4:¬(c=i):=by omega
 have hcp1:∀ ty dc sc,(Builtin.copy_ #[60,60] ty #[.slice (some ⟨b,off+(i+m),none⟩) (n+m-(i+m)) dc,.slice (some ⟨b,off+i,none⟩) (n+m-i) sc]).run Tryz.prog w.drew=.ok (goInt ((n-i:Nat):Int)) (w.drew.setCells b (off+(i+m)) (cs.drop (i))):=fun ty dc sc =>
  run_copy_sz w.drew _ _ ty 22 1 (n-i) b (off+(i+m)) (n+m-(i+m)) dc ⟨b,off+i,none⟩ (n+m-i) sc (cs.drop (i)) hu hsz (by simp only [Nat.min_def]; split<;>omega) (by rw [hdl]; omega)
   (fun j v hj=>by rw [Addr.add_lit,Nat.add_assoc]; exact hcs (i+j) v (by rwa [List.getElem?_drop] at hj))
   (fun j hj=>by rw [Nat.add_assoc]; exact hsp _ (by omega)) (fun j hj=>by rw [Nat.add_assoc]; exact hfz _ (by omega)) (fun v hv=>h1c v (List.mem_of_mem_drop hv))
 obtain ⟨W1,hW1⟩:∃ W1,W1=w.drew.setCells b (off+(i+m)) (cs.drop (i)):=⟨_,rfl⟩
 have hsp1:∀ k,k<(n+m)->(W1.cell? ⟨b,off+k,none⟩).isSome=true:=fun k hk=>by
  rw [hW1]
  exact isSome_setCells b _ _ _ (fun j hj=>by rw [Nat.add_assoc]; exact hsp _ (by omega)) _ (hsp k hk)
 have hcp2:∀ (W:World),(∀ x,W.cell? x=W1.cell? x)->(∀ x,W.frozen? x=W1.frozen? x)->∀ ty dc,(Builtin.copy_ #[60,60] ty #[.slice (some ⟨b,off+i,none⟩) (n+m-i) dc,.slice (some ⟨vb,voff,none⟩) m vc]).run Tryz.prog W=.ok (goInt m) (W.setCells b (off+i) vs):=fun W hWc hWf ty dc =>
  run_copy_sz W _ _ ty 22 1 m b (off+i) (n+m-i) dc ⟨vb,voff,none⟩ m vc vs hu hsz (by simp only [Nat.min_def]; split<;>omega) (by rw [hvl]; omega)
   (fun j v hj=>by
    rw [Addr.add_lit,hWc,hW1,World.cell?_setCells_out b _ _ _ _ (fun h _=>absurd h hvb)]
    exact hvs j v hj)
   (fun j hj=>by rw [hWc,Nat.add_assoc]; exact hsp1 _ (by omega)) (fun j hj=>by rw [hWf,hW1,World.frozen?_setCells,Nat.add_assoc]; exact hfz _ (by omega)) h1v
 rw [<-hW1] at hcp1
 have mixed:Tryz.prog.follows Departure.mixedOrders=true:=E3_ok.mx
 go_enter Tryz.func79,Tryz.ntmps79
 go_wp2_with (simp only [hov])
 go_region_law_o (refine step_copy_runI rfl _ _ 60 60 rfl _ _ (by simp [Act.eval,Act.put]) (by simp [Act.eval,Act.put]) (hcp1 _ _ _) ?_)
 go_wp2_with (at_builtin; refine wpList_copy_runI _ rfl _ _ 60 60 rfl _ _ rfl rfl (hcp2 _ (fun _=>rfl) (fun _=>rfl) _ _) ?_)
 go_ret
 first|exact ⟨rfl,rfl⟩|exact ⟨rfl,by rw [hW1]⟩
set_option maxHeartbeats 4000000 in
set_option maxRecDepth 100000 in
theorem insB_grow (b off n c i vb voff m vc:Nat) (cs vs:List Value) (w:World) (hi:i<n) (hm:0<m) (hnc:n<=c) (hroom:c<n+m) (hbig:(n+m)*24<=140737488355328)
    (hcl:cs.length=n) (hvl:vs.length=m)
    (hcs:∀ j v,cs[j]?=some v->w.cell? ⟨b,off+j,none⟩=some v)
    (hvs:∀ j v,vs[j]?=some v->w.cell? ⟨vb,voff+j,none⟩=some v) (h1c:∀ v∈cs,v.oneCell'=true) (h1v:∀ v∈vs,v.oneCell'=true) :
    Calls Tryz.prog 79 #[.slice (some ⟨b,off,none⟩) n c,.int .i64 i,.slice (some ⟨vb,voff,none⟩) m vc] w fun e w' =>
     e=.returned (.slice (some ⟨w.heap.size,0,none⟩) (n+m) (grownCap w (n+m) c 22)) /\
     w'=(((w.alloc (.cells ((cs.take (i)).toArray++Builtin.zeroCells (.slice none 0 0:Value).cells (n+m-i)++Builtin.zeroCells (.slice none 0 0:Value).cells (grownCap w (n+m) c 22-(n+m))) 22)).drew.setCells w.heap.size (i) vs).drew).setCells w.heap.size ((i+m)) (cs.drop (i)):=by
 obtain ⟨i0,hi0,hz0,hzs,hzb⟩:=info_parts insIB
 have hu:Tryz.prog.underlying 60=some (.slice 22):=by kernel_rfl
 have hun:Tryz.prog.underlying 3=some (.int .i64):=by kernel_rfl
 have hz1:¬((m:Int)=0):=by omega
 have hz2:¬((i:Int)=(n:Int)):=by omega
 have hz3:(c:Int)<(n:Int)+(m:Int):=by omega
 have hsz:(Tryz.prog.info? 22).map (·.size)=some 1:=by rw [hi0]; simp [hzs]
 have hbw:b<w.heap.size:=block_lt_of_cell (hcs 0 _ (List.getElem?_eq_getElem (by omega)))
 have hvw:vb<w.heap.size:=block_lt_of_cell (hvs 0 _ (List.getElem?_eq_getElem (by omega)))
 have hkk:(n:Int)+(m:Int)-(i:Int)=((n+m-i:Nat):Int):=by omega
 have hik:i+(n+m-i)=n+m:=by omega
 have hold:(Builtin.firstCells i0.size i (.slice (some ⟨b,off,none⟩) i c)).run Tryz.prog w.drew=.ok (cs.take (i)).toArray w.drew:=by
  rw [hzs]
  exact run_firstCells_some w.drew 1 i ⟨b,off,none⟩ i c (cs.take (i)) (by rw [List.length_take,hcl]; omega) (fun j v hj=>by
   rw [Addr.add_lit]
   rw [List.getElem?_take] at hj
   split at hj
   ·exact hcs j v hj
   ·cases hj)
 have hrz:∀ ty,(Builtin.append_ #[60,3] ty #[.slice (some ⟨b,off,none⟩) i c,.int .i64 ((n:Int)+(m:Int)-(i:Int))]).run Tryz.prog w =
     .ok (.slice (some ⟨w.heap.size,0,none⟩) (n+m) (grownCap w (n+m) c 22)) (w.drew.alloc (.cells ((cs.take (i)).toArray++Builtin.zeroCells (.slice none 0 0:Value).cells (n+m-i)++Builtin.zeroCells (.slice none 0 0:Value).cells (grownCap w (n+m) c 22-(n+m))) 22)):=fun ty=>by
  have h:=Lib.run_append_grow_zeros w 60 3 ty 22 i0 _ .i64 .i64 hu hun hi0 hz0 (some ⟨b,off,none⟩) i c (cs.take (i)) hold (n+m-i) (by omega) (by omega) (by omega) (by omega) (by rw [hzb]; omega) (by rw [hzb,hik]; exact growslice_fits hroom hbig)
  rw [hik] at h
  rw [hkk]
  exact h
 obtain ⟨G,hG⟩:∃ G,G=grownCap w (n+m) c 22:=⟨_,rfl⟩
 obtain ⟨ROW,hROW⟩:∃ ROW:Array Value,ROW=(cs.take (i)).toArray++Builtin.zeroCells (.slice none 0 0:Value).cells (n+m-i)++Builtin.zeroCells (.slice none 0 0:Value).cells (G-(n+m)):=⟨_,rfl⟩
 rw [<-hG] at hrz ⊢
 rw [<-hROW] at hrz ⊢
 have hRl:(n+m)<=ROW.size:=by
  rw [hROW]
  simp [Builtin.zeroCells,Value.cells]
  omega
 obtain ⟨W1,hW1⟩:∃ W1,W1=w.drew.alloc (.cells ROW 22):=⟨_,rfl⟩
 rw [<-hW1] at hrz
 have hN:∀ j,j<(n+m)->(W1.cell? ⟨w.heap.size,j,none⟩).isSome=true:=fun j hj=>by
  rw [hW1,World.cell?_alloc_at (w:=w.drew) ROW _ w.heap.size j rfl,Array.getElem?_eq_getElem (by omega)]; rfl
 have hNf:∀ j,W1.frozen? ⟨w.heap.size,j,none⟩=false:=fun j=>by rw [hW1]; exact World.frozen?_alloc_at (w:=w.drew) ROW _ w.heap.size j rfl
 have hOb:∀ j v,w.cell? ⟨b,j,none⟩=some v->W1.cell? ⟨b,j,none⟩=some v:=fun j v h=>by rw [hW1,World.cell?_alloc_past (w:=w.drew) _ b j hbw]; exact h
 have hOv:∀ j v,w.cell? ⟨vb,j,none⟩=some v->W1.cell? ⟨vb,j,none⟩=some v:=fun j v h=>by rw [hW1,World.cell?_alloc_past (w:=w.drew) _ vb j hvw]; exact h
 have hcpA:∀ (W:World),(∀ x,W.cell? x=W1.cell? x)->(∀ x,W.frozen? x=W1.frozen? x)->∀ ty dc,(Builtin.copy_ #[60,60] ty #[.slice (some ⟨w.heap.size,i,none⟩) (n+m-i) dc,.slice (some ⟨vb,voff,none⟩) m vc]).run Tryz.prog W=.ok (goInt m) (W.setCells w.heap.size (i) vs):=fun W hWc hWf ty dc =>
  run_copy_sz W _ _ ty 22 1 m w.heap.size (i) (n+m-i) dc ⟨vb,voff,none⟩ m vc vs hu hsz (by simp only [Nat.min_def]; split<;>omega) (by rw [hvl]; omega)
   (fun j v hj=>by rw [Addr.add_lit,hWc]; exact hOv _ v (hvs j v hj))
   (fun j hj=>by rw [hWc]; exact hN _ (by omega)) (fun j hj=>by rw [hWf]; exact hNf _) h1v
 have hGn:n+m<=G:=by rw [hG]; exact grownCap_ge w _ _ _
 have hG63:G<=9223372036854775807:=by
  have:=grownCap_le_maxLen w (n+m) c 22 (by unfold maxLen; omega)
  rw [<-hG] at this
  unfold maxLen at this
  omega
 have hGi:¬(G=i):=by omega
 have hGim:¬(G=i+m):=by omega
 have hci:¬(c=i):=by omega
 have hbN:b≠w.heap.size:=by omega
 have hdl:(cs.drop (i)).length=(n-i):=by rw [List.length_drop,hcl]
 have hcpB:∀ (W:World),(∀ x,W.cell? x=(W1.setCells w.heap.size (i) vs).cell? x)->(∀ x,W.frozen? x=(W1.setCells w.heap.size (i) vs).frozen? x)->∀ ty dc sc,(Builtin.copy_ #[60,60] ty #[.slice (some ⟨w.heap.size,(i+m),none⟩) (n+m-(i+m)) dc,.slice (some ⟨b,off+i,none⟩) (n-i) sc]).run Tryz.prog W=.ok (goInt ((n-i:Nat):Int)) (W.setCells w.heap.size ((i+m)) (cs.drop (i))):=fun W hWc hWf ty dc sc =>
  run_copy_sz W _ _ ty 22 1 (n-i) w.heap.size ((i+m)) (n+m-(i+m)) dc ⟨b,off+i,none⟩ (n-i) sc (cs.drop (i)) hu hsz (by simp only [Nat.min_def]; split<;>omega) (by rw [hdl]; omega)
   (fun j v hj=>by
    rw [Addr.add_lit,hWc,World.cell?_setCells_out _ _ _ _ _ (fun h _=>absurd h hbN),Nat.add_assoc]
    exact hOb _ v (hcs (i+j) v (by rwa [List.getElem?_drop] at hj)))
   (fun j hj=>by rw [hWc]; exact isSome_setCells _ _ _ _ (fun t ht=>hN _ (by omega)) _ (hN _ (by omega)))
   (fun j hj=>by rw [hWf,World.frozen?_setCells]; exact hNf _) (fun v hv=>h1c v (List.mem_of_mem_drop hv))
 subst hW1
 have hE1:∀ x,((w.alloc (.cells ROW 22)).drew).cell? x=(w.drew.alloc (.cells ROW 22)).cell? x:=fun x=>rfl
 have hE2:∀ x,((w.alloc (.cells ROW 22)).drew).frozen? x=(w.drew.alloc (.cells ROW 22)).frozen? x:=fun x=>rfl
 have hF1:∀ x,(((w.alloc (.cells ROW 22)).drew.setCells w.heap.size (i) vs).drew).cell? x=((w.drew.alloc (.cells ROW 22)).setCells w.heap.size (i) vs).cell? x:=fun x=>rfl
 have hF2:∀ x,(((w.alloc (.cells ROW 22)).drew.setCells w.heap.size (i) vs).drew).frozen? x=((w.drew.alloc (.cells ROW 22)).setCells w.heap.size (i) vs).frozen? x:=fun x=>rfl
 have hw1:IntKind.i64.wrap ((i:Int)+(m:Int))=(i:Int)+(m:Int):=by rw [IntKind.wrap_i64]; omega
 have hw2:IntKind.i64.wrap ((n:Int)+(m:Int))=(n:Int)+(m:Int):=by rw [IntKind.wrap_i64]; omega
 have hw3:IntKind.i64.wrap ((n:Int)+(m:Int)-(i:Int))=(n:Int)+(m:Int)-(i:Int):=by rw [IntKind.wrap_i64]; omega
 have hb1:(0:Int)<=(i:Int)+(m:Int):=by omega
 have hin:i<=n:=by omega
 have htn:((i:Int)+(m:Int)).toNat=i+m:=by omega
 have hb3:(i:Int)<=(n:Int):=by omega
 clear hkk hik hold hROW hG hRl
 have mixed:Tryz.prog.follows Departure.mixedOrders=true:=E3_ok.mx
 go_enter Tryz.func79,Tryz.ntmps79
 go_wp2_with (first
  | (at_builtin; refine Lib.wpList_append_run _ rfl _ _ _ _ rfl _ _ rfl rfl _ _ (hrz _) ?_)
  | (at_builtin; refine wpList_copy_runI _ rfl _ _ 60 60 rfl _ _ rfl rfl (hcpA _ hE1 hE2 _ _) ?_)
  | (at_builtin; refine wpList_copy_runI _ rfl _ _ 60 60 rfl _ _ rfl rfl (hcpB _ (fun _=>rfl) (fun _=>rfl) _ _ _) ?_))
 go_region_law_o (refine step_copy_runI rfl _ _ 60 60 rfl (.slice (some ⟨w.heap.size,(i+m),none⟩) (n+m-(i+m)) (G-(i+m))) (.slice (some ⟨b,off+i,none⟩) (n-i) (c-i)) (by simp [Act.eval,Act.put]) (by simp [Act.eval,Act.put]) (hcpB _ hF1 hF2 3 (G-(i+m)) (c-i)) ?_)
 go_wp2
 go_ret
 exact ⟨rfl,rfl⟩
set_option maxHeartbeats 4000000 in
set_option maxRecDepth 100000 in
theorem insB_own {w:World} {B':Nat} {v:Value} {n i vb vc:Nat} {xs ys:List Value} (hown:w.ownsRow 0 22 1 v n xs) (h1:∀ u∈xs,u.oneCell'=true) (hv:w.ownsRow B' 22 1 (.slice (some ⟨vb,0,none⟩) 1 vc) 1 ys) (h2:∀ u∈ys,u.oneCell'=true)
    (hne:∀ b,blk v=some b->b≠vb) (hi:i<=n) (hn:n<=1000000) :
    Calls Tryz.prog 79 #[v,.int .i64 i,.slice (some ⟨vb,0,none⟩) 1 vc] w fun e w'=>∃ v',e=.returned v'/\w'.ownsRow 0 22 1 v' (n+1) (xs.take (i*1)++ys++xs.drop (i*1))/\w.grownBy w' (blk v)/\∀ b,blk v'=some b->blk v=some b∨w.heap.size<=b:=by
 have hu:Tryz.prog.underlying 60=some (.slice 22):=by kernel_rfl
 have hyl:ys.length=1:=by rw [hv.1]
 have hvc:∀ (j:Nat) (c:Value),ys[j]?=some c->w.cell? ((⟨vb,0,none⟩:Addr).add j)=some c:=hv.cells (g:=vb) rfl
 have hf:TyFact Tryz.prog 22 ⟨.slice (.int .i64),3,24,0⟩:=E3_ok.fact (T:=22) (e:=⟨.slice (.int .i64),3,24,0⟩) rfl
 rcases Nat.lt_or_ge i n with hin|hin
 ·rcases hown.2 with ⟨_,rfl⟩|⟨g,cap,cur,rfl,_,hg,hnc,hcm,hcs,hx⟩
  ·exact absurd hin (Nat.not_lt_zero _)
  have hxl:xs.length=n*1:=hown.1
  have hxc:∀ j v,xs[j]?=some v->w.cell? ⟨g,0+j,none⟩=some v:=fun j v hj=>by
   have:=hown.cells (g:=g) rfl j v hj
   rwa [Addr.add_lit] at this
  have hyc:∀ j v,ys[j]?=some v->w.cell? ⟨vb,0+j,none⟩=some v:=fun j v hj=>by
   have:=hvc j v hj
   rwa [Addr.add_lit] at this
  rcases Nat.lt_or_ge cap (n+1) with hr|hr
  ·refine (insB_grow g 0 n cap i vb 0 1 vc xs ys w hin (by decide) hnc hr (by omega) (by rw [hxl]; omega) (by rw [hyl]) hxc hyc h1 h2).mono fun e w' ⟨he,hw⟩=>?_
   have hge:=grownCap_ge w (n+1) cap 22
   have hle:=grownCap_le_maxLen w (n+1) cap 22 (by unfold maxLen; omega)
   generalize grownCap w (n+1) cap 22=G at he hw hge hle
   subst hw
   obtain ⟨q1,q2⟩:=own_grow (w:=w) (T:=22) (sz:=1) (n:=n) (G:=G) (i:=i) (xs:=xs) (ys:=ys) (Z1:=Builtin.zeroCells (.slice none 0 0:Value).cells (n+1-i)) (Z2:=Builtin.zeroCells (.slice none 0 0:Value).cells (G-(n+1))) hxl hi hge hle hyl (by rw [zero_size]; rfl) (by rw [zero_size]; rfl)
   simp only [Nat.mul_one] at q1 q2 ⊢
   refine ⟨_,he,q1,?_,fun b hb=>.inr ?_⟩
   ·exact ⟨q2.os,q2.tape,q2.output,q2.size,fun k hk _=>q2.block k hk (by simp)⟩
   ·cases hb; exact Nat.le_refl _
  ·have hvh:∃ vcur,w.heap[vb]?=some (.cells vcur 22 (0,0)):=by
     rcases hv.2 with ⟨e,_⟩|⟨g',cap',cur',e,_,hg',_⟩
     ·cases e
     ·cases e; exact ⟨cur',hg'⟩
   obtain ⟨vcur,hvh⟩:=hvh
   have hcl:cur.size=cap*1:=hcs
   have hsp:∀ j,j<(n+1)->(w.cell? ⟨g,0+j,none⟩).isSome=true:=fun j hj=>by
    have:w.heap[g]?=some (.cells cur.toList.toArray 22 (0,0)):=by rw [hg]
    rw [cellI this,List.getElem?_eq_getElem (by rw [Array.length_toList]; omega)]; rfl
   have hfz:∀ j,w.frozen? ⟨g,j,none⟩=false:=fun j=>frozenI (cur:=cur.toList) (T:=22) (by rw [hg])
   have hfv:∀ j,w.frozen? ⟨vb,j,none⟩=false:=fun j=>frozenI (cur:=vcur.toList) (T:=22) (by rw [hvh])
   refine (insB_shift g 0 n cap i vb 0 1 vc xs ys w hin (by decide) hr (by unfold maxLen at hcm; omega) (fun e=>hne g rfl e.symm) (by rw [hxl]; omega) (by rw [hyl]) hxc hsp (fun j _=>hfz _) hyc h1 h2 22 22 vcur.size cur.size (by unfold World.shape?; rw [hvh]) (by unfold World.shape?; rw [hg]) (by omega) (hfv _) (hfv _)).mono fun e w' ⟨he,hw⟩=>?_
   subst hw
   obtain ⟨q1,q2⟩:=own_shift (w:=w) (T:=22) (sz:=1) (n:=n) (i:=i) hg hcs hx hi hr hcm hyl
   simp only [Nat.zero_add] at he ⊢
   simp only [Nat.mul_one] at q1 q2 ⊢
   exact ⟨_,he,q1,q2,fun b hb=>.inl hb⟩
 ·have hin:i=n:=by omega
  subst hin
  have hxl:xs.length=i*1:=hown.1
  have e1:xs.take (i*1)++ys++xs.drop (i*1)=xs++ys:=by rw [List.take_of_length_le (by omega),List.drop_of_length_le (by omega),List.append_nil]
  rw [e1]
  obtain ⟨v',w',q1,q2,q3,q4⟩:=run_append (P:=Tryz.prog) (T:=60) (ty:=60) hu hf (Nat.zero_le _) (by decide) hown (u:=.slice (some ⟨vb,0,none⟩) 1 vc) (m:=1) (news:=ys) (by rw [hyl]; rfl) h2 (.inr ⟨_,_,rfl,hvc⟩) (by unfold maxLen; omega) (show (i+1)*24<=_ by omega)
  have q3:w.grownBy w' (blk v):=by
   have e:blk v=v.ownBlock:=by
    rcases hown.2 with ⟨rfl,_⟩|⟨g,cap,cur,rfl,_⟩<;>rfl
   rw [e]; exact q3
  have key:Calls Tryz.prog 79 #[v,.int .i64 i,.slice (some ⟨vb,0,none⟩) 1 vc] w fun e w2=>e=.returned v'/\w2=w':=by
   clear q2 q3 q4 hvc hv h1 h2 hne e1 hf
   rcases hown.2 with ⟨rfl,rfl⟩|⟨g,cap,cur,rfl,_,_,hnc,_⟩
   ·clear hown
    go_enter Tryz.func79,Tryz.ntmps79
    go_wp2_with (at_builtin; refine Lib.wpList_append_run _ rfl _ _ _ _ rfl _ _ rfl rfl _ _ q1 ?_)
    go_ret
    exact ⟨rfl,rfl⟩
   ·clear hown
    go_enter Tryz.func79,Tryz.ntmps79
    go_wp2_with (at_builtin; refine Lib.wpList_append_run _ rfl _ _ _ _ rfl _ _ rfl rfl _ _ q1 ?_)
    all_goals (go_ret; exact ⟨rfl,rfl⟩)
  exact key.mono fun e w2 ⟨he,hw⟩=>⟨v',he,by rw [hw]; exact q2,by rw [hw]; exact q3,q4⟩
theorem insIK:(Tryz.prog.info? 51).map (fun i=>(i.zero,i.size,i.bytes))=some (some (.slice none 0 0),1,24):=by kernel_rfl
set_option maxHeartbeats 4000000 in
set_option maxRecDepth 100000 in
theorem insK_shift (b off n c i vb voff m vc:Nat) (cs vs:List Value) (w:World) (hi:i<n) (hm:0<m) (hroom:n+m<=c) (hc63:c<=9223372036854775807) (hvb:vb≠b)
    (hcl:cs.length=n) (hvl:vs.length=m)
    (hcs:∀ j v,cs[j]?=some v->w.cell? ⟨b,off+j,none⟩=some v) (hsp:∀ j,j<(n+m)->(w.cell? ⟨b,off+j,none⟩).isSome=true) (hfz:∀ j,j<(n+m)->w.frozen? ⟨b,off+j,none⟩=false)
    (hvs:∀ j v,vs[j]?=some v->w.cell? ⟨vb,voff+j,none⟩=some v) (h1c:∀ v∈cs,v.oneCell'=true) (h1v:∀ v∈vs,v.oneCell'=true)
    (tA tB:TypeId) (kA kB:Nat) (hsa:w.shape? vb=some (tA,kA)) (hsb:w.shape? b=some (tB,kB)) (hkB:kB≠0) (hfa:w.frozen? ⟨vb,voff,none⟩=false) (hfe:w.frozen? ⟨vb,kA,none⟩=false) :
    Calls Tryz.prog 80 #[.slice (some ⟨b,off,none⟩) n c,.int .i64 i,.slice (some ⟨vb,voff,none⟩) m vc] w fun e w' =>
     e=.returned (.slice (some ⟨b,off,none⟩) (n+m) c)/\w'=(w.drew.setCells b (off+(i+m)) (cs.drop (i))).setCells b (off+i) vs:=by
 obtain ⟨i0,hi0,hz0,hzs,hzb⟩:=info_parts insIK
 have hu:Tryz.prog.underlying 120=some (.slice 51):=by kernel_rfl
 have hz1:¬((m:Int)=0):=by omega
 have hz2:¬((i:Int)=(n:Int)):=by omega
 have hsz:(Tryz.prog.info? 51).map (·.size)=some 1:=by rw [hi0]; simp [hzs]
 have hzsz:∀ w,(Go.sizeOf 51).run Tryz.prog w=.ok 1 w:=fun w=>by simp [sizeOf,typeInfo,hi0,hzs]
 have hov:∀ lb cb,(callFunc 107 #[.slice (some ⟨vb,voff,none⟩) m vc,.slice (some ⟨b,off+(i+m),none⟩) lb cb]).run Tryz.prog w=.ok (.value (.bool false)) w:=fun lb cb=>by
  rw [run_callFunc_extern Tryz.func107 (by kernel_rfl) (by kernel_rfl) (by kernel_rfl) (e:=Extern.SlicesOverlaps.overlaps #[120,120] #[4]) (by kernel_rfl),
   Lib.run_overlaps_apart w 120 4 51 hu 1 hzsz ⟨vb,voff,none⟩ ⟨b,off+(i+m),none⟩ m vc lb cb hvb tA tB kA kB hsa hsb hkB hfa hfe]
  rfl
 have hdl:(cs.drop (i)).length=(n-i):=by rw [List.length_drop,hcl]
 have hw1:IntKind.i64.wrap ((i:Int)+(m:Int))=(i:Int)+(m:Int):=by rw [IntKind.wrap_i64]; omega
 have hw2:IntKind.i64.wrap ((n:Int)+(m:Int))=(n:Int)+(m:Int):=by rw [IntKind.wrap_i64]; omega
 have hb1:(0:Int)<=(i:Int)+(m:Int):=by omega
 have hin:i<=n:=by omega
 have htn:((i:Int)+(m:Int)).toNat=i+m:=by omega
 have htn2:((n:Int)+(m:Int)).toNat=n+m:=by omega
 have hb2:¬(c=i+m):=by omega
 have hb3:(i:Int)<=(n:Int)+(m:Int):=by omega
 have hb4:¬(c=i):=by omega
 have hcp1:∀ ty dc sc,(Builtin.copy_ #[120,120] ty #[.slice (some ⟨b,off+(i+m),none⟩) (n+m-(i+m)) dc,.slice (some ⟨b,off+i,none⟩) (n+m-i) sc]).run Tryz.prog w.drew=.ok (goInt ((n-i:Nat):Int)) (w.drew.setCells b (off+(i+m)) (cs.drop (i))):=fun ty dc sc =>
  run_copy_sz w.drew _ _ ty 51 1 (n-i) b (off+(i+m)) (n+m-(i+m)) dc ⟨b,off+i,none⟩ (n+m-i) sc (cs.drop (i)) hu hsz (by simp only [Nat.min_def]; split<;>omega) (by rw [hdl]; omega)
   (fun j v hj=>by rw [Addr.add_lit,Nat.add_assoc]; exact hcs (i+j) v (by rwa [List.getElem?_drop] at hj))
   (fun j hj=>by rw [Nat.add_assoc]; exact hsp _ (by omega)) (fun j hj=>by rw [Nat.add_assoc]; exact hfz _ (by omega)) (fun v hv=>h1c v (List.mem_of_mem_drop hv))
 obtain ⟨W1,hW1⟩:∃ W1,W1=w.drew.setCells b (off+(i+m)) (cs.drop (i)):=⟨_,rfl⟩
 have hsp1:∀ k,k<(n+m)->(W1.cell? ⟨b,off+k,none⟩).isSome=true:=fun k hk=>by
  rw [hW1]
  exact isSome_setCells b _ _ _ (fun j hj=>by rw [Nat.add_assoc]; exact hsp _ (by omega)) _ (hsp k hk)
 have hcp2:∀ (W:World),(∀ x,W.cell? x=W1.cell? x)->(∀ x,W.frozen? x=W1.frozen? x)->∀ ty dc,(Builtin.copy_ #[120,120] ty #[.slice (some ⟨b,off+i,none⟩) (n+m-i) dc,.slice (some ⟨vb,voff,none⟩) m vc]).run Tryz.prog W=.ok (goInt m) (W.setCells b (off+i) vs):=fun W hWc hWf ty dc =>
  run_copy_sz W _ _ ty 51 1 m b (off+i) (n+m-i) dc ⟨vb,voff,none⟩ m vc vs hu hsz (by simp only [Nat.min_def]; split<;>omega) (by rw [hvl]; omega)
   (fun j v hj=>by
    rw [Addr.add_lit,hWc,hW1,World.cell?_setCells_out b _ _ _ _ (fun h _=>absurd h hvb)]
    exact hvs j v hj)
   (fun j hj=>by rw [hWc,Nat.add_assoc]; exact hsp1 _ (by omega)) (fun j hj=>by rw [hWf,hW1,World.frozen?_setCells,Nat.add_assoc]; exact hfz _ (by omega)) h1v
 rw [<-hW1] at hcp1
 have mixed:Tryz.prog.follows Departure.mixedOrders=true:=E3_ok.mx
 go_enter Tryz.func80,Tryz.ntmps80
 go_wp2_with (simp only [hov])
 go_region_law_o (refine step_copy_runI rfl _ _ 120 120 rfl _ _ (by simp [Act.eval,Act.put]) (by simp [Act.eval,Act.put]) (hcp1 _ _ _) ?_)
 go_wp2_with (at_builtin; refine wpList_copy_runI _ rfl _ _ 120 120 rfl _ _ rfl rfl (hcp2 _ (fun _=>rfl) (fun _=>rfl) _ _) ?_)
 go_ret
 first|exact ⟨rfl,rfl⟩|exact ⟨rfl,by rw [hW1]⟩
set_option maxHeartbeats 4000000 in
set_option maxRecDepth 100000 in
theorem insK_grow (b off n c i vb voff m vc:Nat) (cs vs:List Value) (w:World) (hi:i<n) (hm:0<m) (hnc:n<=c) (hroom:c<n+m) (hbig:(n+m)*24<=140737488355328)
    (hcl:cs.length=n) (hvl:vs.length=m)
    (hcs:∀ j v,cs[j]?=some v->w.cell? ⟨b,off+j,none⟩=some v)
    (hvs:∀ j v,vs[j]?=some v->w.cell? ⟨vb,voff+j,none⟩=some v) (h1c:∀ v∈cs,v.oneCell'=true) (h1v:∀ v∈vs,v.oneCell'=true) :
    Calls Tryz.prog 80 #[.slice (some ⟨b,off,none⟩) n c,.int .i64 i,.slice (some ⟨vb,voff,none⟩) m vc] w fun e w' =>
     e=.returned (.slice (some ⟨w.heap.size,0,none⟩) (n+m) (grownCap w (n+m) c 51)) /\
     w'=(((w.alloc (.cells ((cs.take (i)).toArray++Builtin.zeroCells (.slice none 0 0:Value).cells (n+m-i)++Builtin.zeroCells (.slice none 0 0:Value).cells (grownCap w (n+m) c 51-(n+m))) 51)).drew.setCells w.heap.size (i) vs).drew).setCells w.heap.size ((i+m)) (cs.drop (i)):=by
 obtain ⟨i0,hi0,hz0,hzs,hzb⟩:=info_parts insIK
 have hu:Tryz.prog.underlying 120=some (.slice 51):=by kernel_rfl
 have hun:Tryz.prog.underlying 3=some (.int .i64):=by kernel_rfl
 have hz1:¬((m:Int)=0):=by omega
 have hz2:¬((i:Int)=(n:Int)):=by omega
 have hz3:(c:Int)<(n:Int)+(m:Int):=by omega
 have hsz:(Tryz.prog.info? 51).map (·.size)=some 1:=by rw [hi0]; simp [hzs]
 have hbw:b<w.heap.size:=block_lt_of_cell (hcs 0 _ (List.getElem?_eq_getElem (by omega)))
 have hvw:vb<w.heap.size:=block_lt_of_cell (hvs 0 _ (List.getElem?_eq_getElem (by omega)))
 have hkk:(n:Int)+(m:Int)-(i:Int)=((n+m-i:Nat):Int):=by omega
 have hik:i+(n+m-i)=n+m:=by omega
 have hold:(Builtin.firstCells i0.size i (.slice (some ⟨b,off,none⟩) i c)).run Tryz.prog w.drew=.ok (cs.take (i)).toArray w.drew:=by
  rw [hzs]
  exact run_firstCells_some w.drew 1 i ⟨b,off,none⟩ i c (cs.take (i)) (by rw [List.length_take,hcl]; omega) (fun j v hj=>by
   rw [Addr.add_lit]
   rw [List.getElem?_take] at hj
   split at hj
   ·exact hcs j v hj
   ·cases hj)
 have hrz:∀ ty,(Builtin.append_ #[120,3] ty #[.slice (some ⟨b,off,none⟩) i c,.int .i64 ((n:Int)+(m:Int)-(i:Int))]).run Tryz.prog w =
     .ok (.slice (some ⟨w.heap.size,0,none⟩) (n+m) (grownCap w (n+m) c 51)) (w.drew.alloc (.cells ((cs.take (i)).toArray++Builtin.zeroCells (.slice none 0 0:Value).cells (n+m-i)++Builtin.zeroCells (.slice none 0 0:Value).cells (grownCap w (n+m) c 51-(n+m))) 51)):=fun ty=>by
  have h:=Lib.run_append_grow_zeros w 120 3 ty 51 i0 _ .i64 .i64 hu hun hi0 hz0 (some ⟨b,off,none⟩) i c (cs.take (i)) hold (n+m-i) (by omega) (by omega) (by omega) (by omega) (by rw [hzb]; omega) (by rw [hzb,hik]; exact growslice_fits hroom hbig)
  rw [hik] at h
  rw [hkk]
  exact h
 obtain ⟨G,hG⟩:∃ G,G=grownCap w (n+m) c 51:=⟨_,rfl⟩
 obtain ⟨ROW,hROW⟩:∃ ROW:Array Value,ROW=(cs.take (i)).toArray++Builtin.zeroCells (.slice none 0 0:Value).cells (n+m-i)++Builtin.zeroCells (.slice none 0 0:Value).cells (G-(n+m)):=⟨_,rfl⟩
 rw [<-hG] at hrz ⊢
 rw [<-hROW] at hrz ⊢
 have hRl:(n+m)<=ROW.size:=by
  rw [hROW]
  simp [Builtin.zeroCells,Value.cells]
  omega
 obtain ⟨W1,hW1⟩:∃ W1,W1=w.drew.alloc (.cells ROW 51):=⟨_,rfl⟩
 rw [<-hW1] at hrz
 have hN:∀ j,j<(n+m)->(W1.cell? ⟨w.heap.size,j,none⟩).isSome=true:=fun j hj=>by
  rw [hW1,World.cell?_alloc_at (w:=w.drew) ROW _ w.heap.size j rfl,Array.getElem?_eq_getElem (by omega)]; rfl
 have hNf:∀ j,W1.frozen? ⟨w.heap.size,j,none⟩=false:=fun j=>by rw [hW1]; exact World.frozen?_alloc_at (w:=w.drew) ROW _ w.heap.size j rfl
 have hOb:∀ j v,w.cell? ⟨b,j,none⟩=some v->W1.cell? ⟨b,j,none⟩=some v:=fun j v h=>by rw [hW1,World.cell?_alloc_past (w:=w.drew) _ b j hbw]; exact h
 have hOv:∀ j v,w.cell? ⟨vb,j,none⟩=some v->W1.cell? ⟨vb,j,none⟩=some v:=fun j v h=>by rw [hW1,World.cell?_alloc_past (w:=w.drew) _ vb j hvw]; exact h
 have hcpA:∀ (W:World),(∀ x,W.cell? x=W1.cell? x)->(∀ x,W.frozen? x=W1.frozen? x)->∀ ty dc,(Builtin.copy_ #[120,120] ty #[.slice (some ⟨w.heap.size,i,none⟩) (n+m-i) dc,.slice (some ⟨vb,voff,none⟩) m vc]).run Tryz.prog W=.ok (goInt m) (W.setCells w.heap.size (i) vs):=fun W hWc hWf ty dc =>
  run_copy_sz W _ _ ty 51 1 m w.heap.size (i) (n+m-i) dc ⟨vb,voff,none⟩ m vc vs hu hsz (by simp only [Nat.min_def]; split<;>omega) (by rw [hvl]; omega)
   (fun j v hj=>by rw [Addr.add_lit,hWc]; exact hOv _ v (hvs j v hj))
   (fun j hj=>by rw [hWc]; exact hN _ (by omega)) (fun j hj=>by rw [hWf]; exact hNf _) h1v
 have hGn:n+m<=G:=by rw [hG]; exact grownCap_ge w _ _ _
 have hG63:G<=9223372036854775807:=by
  have:=grownCap_le_maxLen w (n+m) c 51 (by unfold maxLen; omega)
  rw [<-hG] at this
  unfold maxLen at this
  omega
 have hGi:¬(G=i):=by omega
 have hGim:¬(G=i+m):=by omega
 have hci:¬(c=i):=by omega
 have hbN:b≠w.heap.size:=by omega
 have hdl:(cs.drop (i)).length=(n-i):=by rw [List.length_drop,hcl]
 have hcpB:∀ (W:World),(∀ x,W.cell? x=(W1.setCells w.heap.size (i) vs).cell? x)->(∀ x,W.frozen? x=(W1.setCells w.heap.size (i) vs).frozen? x)->∀ ty dc sc,(Builtin.copy_ #[120,120] ty #[.slice (some ⟨w.heap.size,(i+m),none⟩) (n+m-(i+m)) dc,.slice (some ⟨b,off+i,none⟩) (n-i) sc]).run Tryz.prog W=.ok (goInt ((n-i:Nat):Int)) (W.setCells w.heap.size ((i+m)) (cs.drop (i))):=fun W hWc hWf ty dc sc =>
  run_copy_sz W _ _ ty 51 1 (n-i) w.heap.size ((i+m)) (n+m-(i+m)) dc ⟨b,off+i,none⟩ (n-i) sc (cs.drop (i)) hu hsz (by simp only [Nat.min_def]; split<;>omega) (by rw [hdl]; omega)
   (fun j v hj=>by
    rw [Addr.add_lit,hWc,World.cell?_setCells_out _ _ _ _ _ (fun h _=>absurd h hbN),Nat.add_assoc]
    exact hOb _ v (hcs (i+j) v (by rwa [List.getElem?_drop] at hj)))
   (fun j hj=>by rw [hWc]; exact isSome_setCells _ _ _ _ (fun t ht=>hN _ (by omega)) _ (hN _ (by omega)))
   (fun j hj=>by rw [hWf,World.frozen?_setCells]; exact hNf _) (fun v hv=>h1c v (List.mem_of_mem_drop hv))
 subst hW1
 have hE1:∀ x,((w.alloc (.cells ROW 51)).drew).cell? x=(w.drew.alloc (.cells ROW 51)).cell? x:=fun x=>rfl
 have hE2:∀ x,((w.alloc (.cells ROW 51)).drew).frozen? x=(w.drew.alloc (.cells ROW 51)).frozen? x:=fun x=>rfl
 have hF1:∀ x,(((w.alloc (.cells ROW 51)).drew.setCells w.heap.size (i) vs).drew).cell? x=((w.drew.alloc (.cells ROW 51)).setCells w.heap.size (i) vs).cell? x:=fun x=>rfl
 have hF2:∀ x,(((w.alloc (.cells ROW 51)).drew.setCells w.heap.size (i) vs).drew).frozen? x=((w.drew.alloc (.cells ROW 51)).setCells w.heap.size (i) vs).frozen? x:=fun x=>rfl
 have hw1:IntKind.i64.wrap ((i:Int)+(m:Int))=(i:Int)+(m:Int):=by rw [IntKind.wrap_i64]; omega
 have hw2:IntKind.i64.wrap ((n:Int)+(m:Int))=(n:Int)+(m:Int):=by rw [IntKind.wrap_i64]; omega
 have hw3:IntKind.i64.wrap ((n:Int)+(m:Int)-(i:Int))=(n:Int)+(m:Int)-(i:Int):=by rw [IntKind.wrap_i64]; omega
 have hb1:(0:Int)<=(i:Int)+(m:Int):=by omega
 have hin:i<=n:=by omega
 have htn:((i:Int)+(m:Int)).toNat=i+m:=by omega
 have hb3:(i:Int)<=(n:Int):=by omega
 clear hkk hik hold hROW hG hRl
 have mixed:Tryz.prog.follows Departure.mixedOrders=true:=E3_ok.mx
 go_enter Tryz.func80,Tryz.ntmps80
 go_wp2_with (first
  | (at_builtin; refine Lib.wpList_append_run _ rfl _ _ _ _ rfl _ _ rfl rfl _ _ (hrz _) ?_)
  | (at_builtin; refine wpList_copy_runI _ rfl _ _ 120 120 rfl _ _ rfl rfl (hcpA _ hE1 hE2 _ _) ?_)
  | (at_builtin; refine wpList_copy_runI _ rfl _ _ 120 120 rfl _ _ rfl rfl (hcpB _ (fun _=>rfl) (fun _=>rfl) _ _ _) ?_))
 go_region_law_o (refine step_copy_runI rfl _ _ 120 120 rfl (.slice (some ⟨w.heap.size,(i+m),none⟩) (n+m-(i+m)) (G-(i+m))) (.slice (some ⟨b,off+i,none⟩) (n-i) (c-i)) (by simp [Act.eval,Act.put]) (by simp [Act.eval,Act.put]) (hcpB _ hF1 hF2 3 (G-(i+m)) (c-i)) ?_)
 go_wp2
 go_ret
 exact ⟨rfl,rfl⟩
set_option maxHeartbeats 4000000 in
set_option maxRecDepth 100000 in
theorem insK_own {w:World} {B':Nat} {v:Value} {n i vb vc:Nat} {xs ys:List Value} (hown:w.ownsRow 0 51 1 v n xs) (h1:∀ u∈xs,u.oneCell'=true) (hv:w.ownsRow B' 51 1 (.slice (some ⟨vb,0,none⟩) 1 vc) 1 ys) (h2:∀ u∈ys,u.oneCell'=true)
    (hne:∀ b,blk v=some b->b≠vb) (hi:i<=n) (hn:n<=1000000) :
    Calls Tryz.prog 80 #[v,.int .i64 i,.slice (some ⟨vb,0,none⟩) 1 vc] w fun e w'=>∃ v',e=.returned v'/\w'.ownsRow 0 51 1 v' (n+1) (xs.take (i*1)++ys++xs.drop (i*1))/\w.grownBy w' (blk v)/\∀ b,blk v'=some b->blk v=some b∨w.heap.size<=b:=by
 have hu:Tryz.prog.underlying 120=some (.slice 51):=by kernel_rfl
 have hyl:ys.length=1:=by rw [hv.1]
 have hvc:∀ (j:Nat) (c:Value),ys[j]?=some c->w.cell? ((⟨vb,0,none⟩:Addr).add j)=some c:=hv.cells (g:=vb) rfl
 have hf:TyFact Tryz.prog 51 ⟨.slice valT,55,24,0⟩:=E3_ok.fact (T:=51) (e:=⟨.slice valT,55,24,0⟩) rfl
 rcases Nat.lt_or_ge i n with hin|hin
 ·rcases hown.2 with ⟨_,rfl⟩|⟨g,cap,cur,rfl,_,hg,hnc,hcm,hcs,hx⟩
  ·exact absurd hin (Nat.not_lt_zero _)
  have hxl:xs.length=n*1:=hown.1
  have hxc:∀ j v,xs[j]?=some v->w.cell? ⟨g,0+j,none⟩=some v:=fun j v hj=>by
   have:=hown.cells (g:=g) rfl j v hj
   rwa [Addr.add_lit] at this
  have hyc:∀ j v,ys[j]?=some v->w.cell? ⟨vb,0+j,none⟩=some v:=fun j v hj=>by
   have:=hvc j v hj
   rwa [Addr.add_lit] at this
  rcases Nat.lt_or_ge cap (n+1) with hr|hr
  ·refine (insK_grow g 0 n cap i vb 0 1 vc xs ys w hin (by decide) hnc hr (by omega) (by rw [hxl]; omega) (by rw [hyl]) hxc hyc h1 h2).mono fun e w' ⟨he,hw⟩=>?_
   have hge:=grownCap_ge w (n+1) cap 51
   have hle:=grownCap_le_maxLen w (n+1) cap 51 (by unfold maxLen; omega)
   generalize grownCap w (n+1) cap 51=G at he hw hge hle
   subst hw
   obtain ⟨q1,q2⟩:=own_grow (w:=w) (T:=51) (sz:=1) (n:=n) (G:=G) (i:=i) (xs:=xs) (ys:=ys) (Z1:=Builtin.zeroCells (.slice none 0 0:Value).cells (n+1-i)) (Z2:=Builtin.zeroCells (.slice none 0 0:Value).cells (G-(n+1))) hxl hi hge hle hyl (by rw [zero_size]; rfl) (by rw [zero_size]; rfl)
   simp only [Nat.mul_one] at q1 q2 ⊢
   refine ⟨_,he,q1,?_,fun b hb=>.inr ?_⟩
   ·exact ⟨q2.os,q2.tape,q2.output,q2.size,fun k hk _=>q2.block k hk (by simp)⟩
   ·cases hb; exact Nat.le_refl _
  ·have hvh:∃ vcur,w.heap[vb]?=some (.cells vcur 51 (0,0)):=by
     rcases hv.2 with ⟨e,_⟩|⟨g',cap',cur',e,_,hg',_⟩
     ·cases e
     ·cases e; exact ⟨cur',hg'⟩
   obtain ⟨vcur,hvh⟩:=hvh
   have hcl:cur.size=cap*1:=hcs
   have hsp:∀ j,j<(n+1)->(w.cell? ⟨g,0+j,none⟩).isSome=true:=fun j hj=>by
    have:w.heap[g]?=some (.cells cur.toList.toArray 51 (0,0)):=by rw [hg]
    rw [cellI this,List.getElem?_eq_getElem (by rw [Array.length_toList]; omega)]; rfl
   have hfz:∀ j,w.frozen? ⟨g,j,none⟩=false:=fun j=>frozenI (cur:=cur.toList) (T:=51) (by rw [hg])
   have hfv:∀ j,w.frozen? ⟨vb,j,none⟩=false:=fun j=>frozenI (cur:=vcur.toList) (T:=51) (by rw [hvh])
   refine (insK_shift g 0 n cap i vb 0 1 vc xs ys w hin (by decide) hr (by unfold maxLen at hcm; omega) (fun e=>hne g rfl e.symm) (by rw [hxl]; omega) (by rw [hyl]) hxc hsp (fun j _=>hfz _) hyc h1 h2 51 51 vcur.size cur.size (by unfold World.shape?; rw [hvh]) (by unfold World.shape?; rw [hg]) (by omega) (hfv _) (hfv _)).mono fun e w' ⟨he,hw⟩=>?_
   subst hw
   obtain ⟨q1,q2⟩:=own_shift (w:=w) (T:=51) (sz:=1) (n:=n) (i:=i) hg hcs hx hi hr hcm hyl
   simp only [Nat.zero_add] at he ⊢
   simp only [Nat.mul_one] at q1 q2 ⊢
   exact ⟨_,he,q1,q2,fun b hb=>.inl hb⟩
 ·have hin:i=n:=by omega
  subst hin
  have hxl:xs.length=i*1:=hown.1
  have e1:xs.take (i*1)++ys++xs.drop (i*1)=xs++ys:=by rw [List.take_of_length_le (by omega),List.drop_of_length_le (by omega),List.append_nil]
  rw [e1]
  obtain ⟨v',w',q1,q2,q3,q4⟩:=run_append (P:=Tryz.prog) (T:=120) (ty:=120) hu hf (Nat.zero_le _) (by decide) hown (u:=.slice (some ⟨vb,0,none⟩) 1 vc) (m:=1) (news:=ys) (by rw [hyl]; rfl) h2 (.inr ⟨_,_,rfl,hvc⟩) (by unfold maxLen; omega) (show (i+1)*24<=_ by omega)
  have q3:w.grownBy w' (blk v):=by
   have e:blk v=v.ownBlock:=by
    rcases hown.2 with ⟨rfl,_⟩|⟨g,cap,cur,rfl,_⟩<;>rfl
   rw [e]; exact q3
  have key:Calls Tryz.prog 80 #[v,.int .i64 i,.slice (some ⟨vb,0,none⟩) 1 vc] w fun e w2=>e=.returned v'/\w2=w':=by
   clear q2 q3 q4 hvc hv h1 h2 hne e1 hf
   rcases hown.2 with ⟨rfl,rfl⟩|⟨g,cap,cur,rfl,_,_,hnc,_⟩
   ·clear hown
    go_enter Tryz.func80,Tryz.ntmps80
    go_wp2_with (at_builtin; refine Lib.wpList_append_run _ rfl _ _ _ _ rfl _ _ rfl rfl _ _ q1 ?_)
    go_ret
    exact ⟨rfl,rfl⟩
   ·clear hown
    go_enter Tryz.func80,Tryz.ntmps80
    go_wp2_with (at_builtin; refine Lib.wpList_append_run _ rfl _ _ _ _ rfl _ _ rfl rfl _ _ q1 ?_)
    all_goals (go_ret; exact ⟨rfl,rfl⟩)
  exact key.mono fun e w2 ⟨he,hw⟩=>⟨v',he,by rw [hw]; exact q2,by rw [hw]; exact q3,q4⟩
end Go.Proofs.YtdobkkhncfifeacGreat.Gx
namespace Go.Proofs.YtdobkkhncfifeacGreat.Gx
open Go Go.RowKit Tw B Nt
set_option linter.unusedVariables false
set_option linter.unusedSimpArgs false
set_option maxHeartbeats 4000000
set_option maxRecDepth 20000
def insL {α:Type} (l:List α) (i:Nat) (m:List α):List α:=l.take i++m++l.drop i
theorem insL_len {α:Type} {l:List α} {i:Nat} {m:List α}:(insL l i m).length=l.length+m.length:=by
 unfold insL
 rw [List.length_append,List.length_append,List.length_take,List.length_drop]
 omega
theorem take_rep {t:Ty} {l:List t.den} {xs:List Value} {X:Nat->Prop} {w:World} (h:∀ (i:Nat) (x:t.den),l[i]?=some x->rep t X w ((xs.drop (i*t.size)).take t.size) x) (k:Nat) :
    ∀ (i:Nat) (x:t.den),(l.take k)[i]?=some x->rep t X w (((xs.take (k*t.size)).drop (i*t.size)).take t.size) x:=by
 intro i x hi
 rw [List.getElem?_take] at hi
 split at hi
 ·rename_i hik
  have e:i*t.size+t.size<=k*t.size:=by rw [<-Nat.succ_mul]; exact Nat.mul_le_mul_right _ hik
  rw [List.drop_take,List.take_take,Nat.min_eq_left (by omega)]
  exact h i x hi
 ·cases hi
theorem drop_rep {t:Ty} {l:List t.den} {xs:List Value} {X:Nat->Prop} {w:World} (h:∀ (i:Nat) (x:t.den),l[i]?=some x->rep t X w ((xs.drop (i*t.size)).take t.size) x) (k:Nat) :
    ∀ (i:Nat) (x:t.den),(l.drop k)[i]?=some x->rep t X w (((xs.drop (k*t.size)).drop (i*t.size)).take t.size) x:=by
 intro i x hi
 rw [List.getElem?_drop] at hi
 rw [List.drop_drop,<-Nat.add_mul]
 exact h (k+i) x hi
def InsOk (P:Program) (f:FuncId) (T:TypeId) (sz:Nat):Prop :=
 ∀ (w:World) (v:Value) (n i vb vc:Nat) (xs ys:List Value),w.ownsRow 0 T sz v n xs->(∀ u∈xs,u.oneCell'=true)->w.ownsRow 0 T sz (.slice (some ⟨vb,0,none⟩) 1 vc) 1 ys->(∀ u∈ys,u.oneCell'=true) ->
  (∀ b,blk v=some b->b≠vb)->i<=n->n<=1000000 ->
  Calls P f #[v,.int .i64 i,.slice (some ⟨vb,0,none⟩) 1 vc] w fun e w'=>∃ v',e=.returned v'/\w'.ownsRow 0 T sz v' (n+1) (xs.take (i*sz)++ys++xs.drop (i*sz))/\w.grownBy w' (blk v)/\∀ b,blk v'=some b->blk v=some b∨w.heap.size<=b
theorem one_row {B:Nat} {w:World} {T:TypeId} {sz:Nat} {v:Value} {ys:List Value} (h:w.ownsRow B T sz v 1 ys):∃ vb vc,v=.slice (some ⟨vb,0,none⟩) 1 vc:=by
 rcases h.2 with ⟨_,e⟩|⟨g,cap,cur,e,_⟩
 ·cases e
 ·exact ⟨g,cap,e⟩
@[reducible] def insS (T:TypeId) (t:Ty):MSpec:=⟨[.r T t,.d (.int .i64),.r T t],fun d=>⟨[(0,.row T t (insL d.1 d.2.1.toNat d.2.2.1))],2,.own 0,[0<=d.2.1/\d.2.1<=(List.length d.1:Int)/\List.length d.1<=1000000/\List.length d.2.2.1=1]⟩⟩
theorem ins_spec {P:Program} {f:FuncId} {fn:Func} (hf:P.funcs[f]?=some fn) (hb:fn.body.isSome=true) (hn:(fn.name == "runtime.NumGoroutine")=false) {T:TypeId} {t:Ty} (hI:InsOk P f T t.size):MSpecOk P f (insS T t):=by
 refine mspec_of' (s:=insS T t) hf hb hn fun d hp ρ0 X w vs hX hf hm=>?_
 obtain ⟨l,i,z,u⟩:=d
 obtain ⟨⟨hp1,hp2,hp3,hp4⟩,-⟩:=hp
 change (0:Int)<=i at hp1
 obtain ⟨k,rfl⟩:=Int.eq_ofNat_of_zero_le hp1
 change List t.den at l z
 change List.length l<=1000000 at hp3
 change List.length z=1 at hp4
 have hk:k<=l.length:=by
  have:((k:Int))<=(l.length:Int):=hp2
  omega
 have hf:Fr w X ρ0 0 ⟨[],[(0,.row T t l),(1,.row T t z)],2⟩ ρ0 act0 w:=hf
 have c0:=hf.cs (0,.row T t l) (by exact List.mem_cons_self ..)
 have c1:=hf.cs (1,.row T t z) (by exact List.mem_cons_of_mem _ (List.mem_cons_self ..))
 obtain ⟨v0,xs,a1,a2,a3,a4⟩:=c0
 obtain ⟨v1,ys,b1,b2,b3,b4⟩:=c1
 have hdj:=hf.dj (0,.row T t l) (by exact List.mem_cons_self ..) (1,.row T t z) (by exact List.mem_cons_of_mem _ (List.mem_cons_self ..)) (by show (0:Nat)≠1; decide)
 have a1:ρ0[0]?=some v0:=a1
 have b1:ρ0[1]?=some v1:=b1
 rw [hp4] at b2
 obtain ⟨vb,vc,rfl⟩:=one_row b2
 obtain ⟨x0,us,rfl,⟨x,hx,_,e0⟩,x1,us1,rfl,h2,x2,us2,rfl,⟨y,hy,_,e2⟩,h3⟩:=hm
 have h3:us2=[]:=h3
 subst h3
 have hx:ρ0[0]?=some x:=hx
 rw [a1] at hx
 cases hx
 have hy:ρ0[1]?=some y:=hy
 rw [b1] at hy
 cases hy
 have e0:=(List.cons.inj e0).1
 have e2:=(List.cons.inj e2).1
 subst e0
 subst e2
 obtain ⟨rfl,_⟩:=m_int h2
 refine (hI w x0 l.length k vb vc xs ys a2 a3 b2 b3 (fun b hb e=>hdj b (inC_blk a1 hb) (by rw [e]; exact inC_blk b1 rfl)) hk hp3).mono fun e w' ⟨v',he,ho,hg,hl⟩=>?_
 have hf1:=hf.lose (k:=1) (z:=.row T t z) rfl (w':=w) ⟨rfl,rfl,rfl,Nat.le_refl _,fun _ _ _=>rfl⟩
 have hbk:blkO ρ0 0=blk x0:=blkO_of a1
 have hsz:=ho.1
 have hlen:(insL l k z).length=l.length+1:=by rw [insL_len,hp4]
 have hX1:∀ b,XX X ρ0 (del [(0,CT.row T t l),(1,CT.row T t z)] 1) b->XX X ρ0 [(0,CT.row T t l),(1,CT.row T t z)] b:=by
  rintro b (hb|⟨y,hy,hb⟩)
  ·exact .inl hb
  ·exact .inr ⟨y,(mem_del hy).1,hb⟩
 have r4:∀ (i:Nat) (x:t.den),l[i]?=some x->rep t (XX X ρ0 (del [(0,CT.row T t l),(1,CT.row T t z)] 1)) w ((xs.drop (i*t.size)).take t.size) x:=fun i x hi=>rep_anti (a4 i x hi) fun b hb=>.inl (hX1 b hb)
 have s4:∀ (i:Nat) (x:t.den),z[i]?=some x->rep t (XX X ρ0 (del [(0,CT.row T t l),(1,CT.row T t z)] 1)) w ((ys.drop (i*t.size)).take t.size) x:=fun i x hi=>rep_anti (b4 i x hi) fun b hb=>.inl (hX1 b hb)
 have hxl:xs.length=l.length*t.size:=a2.1
 have hyl:ys.length=z.length*t.size:=by rw [b2.1,hp4]
 have htk:(xs.take (k*t.size)).length=(l.take k).length*t.size:=by
  have e1:=mul_sub1 (s:=t.size) hk
  rw [List.length_take,List.length_take,Nat.min_eq_left hk]; omega
 have q1:=drop_app htk (take_rep r4 k) s4
 have q2:=drop_app (l:=l.take k++z) (xs:=xs.take (k*t.size)++ys) (by rw [List.length_append,List.length_append,Nat.add_mul,htk,hyl]) q1 (drop_rep r4 k)
 have ho':w'.ownsRow 0 T t.size v' (insL l k z).length (xs.take (k*t.size)++ys++xs.drop (k*t.size)):=by rw [hlen]; exact ho
 have hone:∀ u∈xs.take (k*t.size)++ys++xs.drop (k*t.size),u.oneCell'=true:=by
  intro u hu
  rcases List.mem_append.1 hu with hu|hu
  ·rcases List.mem_append.1 hu with hu|hu
   ·exact a3 u (List.mem_of_mem_take hu)
   ·exact b3 u hu
  ·exact a3 u (List.mem_of_mem_drop hu)
 have hv':∀ b,blk v'=some b->b<w'.heap.size/\(inC ρ0 0 b∨w.heap.size<=b):=by
  intro b hb
  refine ⟨?_,?_⟩
  ·rcases ho.2 with ⟨rfl,_⟩|⟨g,cap,cur,rfl,_,hh,_⟩
   ·cases hb
   ·cases hb; exact heap_lt hh
  ·rcases hl b hb with h|h
   ·exact .inl (inC_blk a1 h)
   ·exact .inr h
 obtain ⟨g1,g2⟩:=hf1.reset (k:=0) (T:=T) (t:=t) (l:=l) (l':=insL l k z) (v':=v') (w':=w') rfl (by rw [hbk]; exact hg) hv' ho' hone q2
 refine ⟨v',_,he,g1,v',g2,?_,rfl⟩
 obtain ⟨_,_,_,e⟩:=own_form ho
 rw [e]; rfl
theorem insK_I:InsOk Tryz.prog 80 51 1:=fun w v n i vb vc xs ys h1 h2 h3 h4 h5 h6 h7=>insK_own h1 h2 h3 h4 h5 h6 h7
theorem insB_I:InsOk Tryz.prog 79 22 1:=fun w v n i vb vc xs ys h1 h2 h3 h4 h5 h6 h7=>insB_own h1 h2 h3 h4 h5 h6 h7
@[reducible,go_sem] def tupT:Ty:=.pair (.slice valT) fT
abbrev Frc:=Bool×List Int×List Int
abbrev Tup:=List Val×Frc
@[go_sem] def insKM:MSpec:=⟨[.r 51 (.slice valT),.d (.int .i64),.r 51 (.slice valT)],fun d=>⟨[(0,.row 51 (.slice valT) (insL d.1 d.2.1.toNat d.2.2.1))],2,.own 0,[0<=d.2.1/\d.2.1<=(List.length d.1:Int)/\List.length d.1<=1000000/\List.length d.2.2.1=1]⟩⟩
theorem insKM_ok:MSpecOk Tryz.prog 80 insKM:=ins_spec Tryz.func80 rfl (by decide) insK_I
end Go.Proofs.YtdobkkhncfifeacGreat.Gx
