/-
  MKc: KB K9 AT in one text.
-/
import Derived.Test.YtdobkkhncfifeabGreatMHc
import Derived.Test.YtdobkkhncfifeabGreatMKb
import Derived.Test.YtdobkkhncfifeabGreatMDb
namespace Go.Proofs.YtdobkkhncfifeabGreat.Gx
open Go Go.RowKit Tw B Nt
set_option linter.unusedVariables false
set_option linter.unusedSimpArgs false
set_option maxHeartbeats 4000000
set_option maxRecDepth 20000
section
variable {E:Env} {w0 w1 w2:World} {X0 X1:Nat->Prop} {Bo:List Value} {N:Nat} {st st':St} {ρ:List Value} {a:Act} {w w':World} {P:Program} {b cap:Nat} {T S D:TypeId} {l:List Int}
def Bts (w:World) (b cap:Nat) (T:TypeId) (l:List Int):Prop :=
 ∃ C:Array Value,w.heap[b]?=some (.cells C T (C.size,C.size+1))/\C.size=cap/\l.length<=cap/\cap<=maxLen/\(∀ x∈l,0<=x/\x<=255)/\C.toList.take l.length=l.map (Value.int .u8)
theorem Bts.lt (h:Bts w b cap T l):b<w.heap.size:=by
 obtain ⟨C,h1,_⟩:=h
 exact heap_lt h1
theorem Bts.keep (h:Bts w b cap T l) (he:w'.heap[b]?=w.heap[b]?):Bts w' b cap T l:=by
 obtain ⟨C,h1,h2⟩:=h
 exact ⟨C,by rw [he]; exact h1,h2⟩
theorem Bts.at (h:Bts w b cap T l) {i:Nat} (hi:i<l.length):∃ C:Array Value,w.heap[b]?=some (.cells C T (C.size,C.size+1))/\i<C.size/\C.toList[i]?=some (.int .u8 (l.getD i 0)):=by
 obtain ⟨C,h1,h2,h3,h4,h5,h6⟩:=h
 refine ⟨C,h1,by omega,?_⟩
 have:(C.toList.take l.length)[i]?=(l.map (Value.int .u8))[i]?:=by rw [h6]
 rw [List.getElem?_take,if_pos hi,List.getElem?_map,List.getElem?_eq_getElem hi] at this
 rw [this]
 simp [hi]
theorem bts_bytes {s:List UInt8}:∀ x∈bytesI s,0<=x/\x<=255:=by
 intro x hx
 unfold bytesI at hx
 obtain ⟨c,_,rfl⟩:=List.mem_map.1 hx
 have:=c.toNat_lt
 omega
theorem bts_new {s:List UInt8} {e:TypeId} (hS:P.underlying S=some .string) (hD:P.underlying D=some (.slice e)) (he:P.underlying e=some (.int .u8)) (hl:s.length<=maxLen) :
    ∃ cap w',(convert S D (.string ⟨s.toArray⟩)).run P w=.ok (.slice (some ⟨w.heap.size,0,none⟩) (bytesI s).length cap) w'/\Bts w' w.heap.size cap e (bytesI s)/\Below w.heap.size w w':=by
 have hr:=run_bytes_of_string (P:=P) w S D e ⟨s.toArray⟩ hS hD he
 have hsz:(⟨s.toArray⟩:ByteArray).size=s.length:=by show s.toArray.size=_; simp
 rw [hsz] at hr
 have hcap:=grownCap_le_maxLen w s.length 0 e hl
 have hge:=grownCap_ge w s.length 0 e
 generalize grownCap w s.length 0 e=cap at *
 have hlen:(bytesI s).length=s.length:=List.length_map ..
 have hsize:(bytesRow ⟨s.toArray⟩ cap).size=cap:=by
  unfold bytesRow
  simp [hsz]
  omega
 refine ⟨cap,_,by rw [hlen]; exact hr,⟨_,heap_alloc_new w.drew _,hsize,by omega,hcap,bts_bytes,?_⟩,(Below.refl _ _).drew.alloc (Nat.le_refl _) _⟩
 rw [hlen]
 unfold bytesRow bytesI
 simp
theorem bts_load {e:TE} (hf:TyFact P T e) (hty:e.ty=.int .u8) {T':TypeId} (h:Bts w b cap T' l) {i:Nat} (hi:i<l.length):(loadVar T ⟨b,i,none⟩).run P w=.ok (.int .u8 (l.getD i 0)) w:=by
 obtain ⟨C,h1,h2,h3⟩:=h.at hi
 have:=run_loadVar (P:=P) hf (off:=i) h1 (cs:=[.int .u8 (l.getD i 0)]) (by
  rw [hty]
  show (C.toList.drop i).take 1=_
  have hl:i<C.toList.length:=by simpa using h2
  rw [List.drop_eq_getElem_cons hl,List.take_succ_cons,List.take_zero]
  rw [List.getElem?_eq_getElem hl] at h3
  rw [Option.some.inj h3]) (by rw [hty]; rfl)
 rw [hty] at this
 exact this
theorem bts_store {e:TE} (hf:TyFact P T e) (hty:e.ty=.int .u8) {T':TypeId} (h:Bts w b cap T' l) {i:Nat} (hi:i<l.length) {x:Int} (hx:0<=x/\x<=255) :
    ∃ w',(storeVar T ⟨b,i,none⟩ (.int .u8 x)).run P w=.ok () w'/\Bts w' b cap T' (l.set i x)/\w'.heap.size=w.heap.size/\(∀ k,k≠b->w'.heap[k]?=w.heap[k]?)/\w'.os=w.os/\w'.tape=w.tape/\w'.output=w.output:=by
 obtain ⟨C,h1,h2,h3,h4,h5,h6⟩:=h
 have hiC:i<C.size:=by omega
 have hsz:(sizeOf T).run P w=.ok 1 w:=by have:=hf.run_size (w:=w); rw [hty] at this; exact this
 have hcell:w.cell? ⟨b,i,none⟩=some C[i]:=by simp [World.cell?,h1,hiC]
 have hfro:w.frozen? ⟨b,i,none⟩=false:=by simp [World.frozen?,h1]; omega
 have hadd:(⟨b,i,none⟩:Addr).add 0=⟨b,i,none⟩:=by unfold Addr.add; split<;>simp_all
 have hb:b<w.heap.size:=heap_lt h1
 refine ⟨w.setCell ⟨b,i,none⟩ (.int .u8 x),?_,⟨C.setIfInBounds i (.int .u8 x),?_,by simpa using h2,by simpa using h3,h4,?_,?_⟩,?_,?_,rfl,rfl,rfl⟩
 ·unfold storeVar
  rw [Sem.run_bind,hsz]
  simp only [Result.andThen_ok,Value.cells,List.size_toArray,List.length_cons,List.length_nil,Nat.zero_add,ne_eq,not_true_eq_false,if_false]
  simp only [storeCells,Sem.run_bind,hadd,run_store P w _ (.int .u8 x) _ rfl,hcell,hfro]
  simp
 ·have:(w.setCell ⟨b,i,none⟩ (.int .u8 x)).heap[b]?=some (.cells (C.setIfInBounds i (.int .u8 x)) T' (C.size,C.size+1)):=by
    unfold World.setCell
    rw [Array.getElem?_modify,if_pos rfl,h1]
    rfl
  rw [this]
  simp
 ·intro y hy
  rcases List.mem_or_eq_of_mem_set hy with hy|rfl
  ·exact h5 y hy
  ·exact hx
 ·rw [List.length_set,Array.toList_setIfInBounds,List.take_set,h6,List.map_set]
 ·unfold World.setCell
  simp
 ·intro k hk
  unfold World.setCell
  rw [Array.getElem?_modify,if_neg (fun h=>hk h.symm)]
theorem bts_text {e:TypeId} (hS:P.underlying S=some (.slice e)) (he:P.underlying e=some (.int .u8)) (hD:P.underlying D=some .string) {T':TypeId} (h:Bts w b cap T' l) :
    (convert S D (.slice (some ⟨b,0,none⟩) l.length cap)).run P w=.ok (.string ⟨(strB l).toArray⟩) w/\(strB l).length<=maxLen:=by
 have hlen:(strB l).length<=maxLen:=by
  obtain ⟨C,h1,h2,h3,h4,h5⟩:=h
  unfold strB
  rw [List.length_map]
  omega
 refine ⟨?_,hlen⟩
 by_cases hn:l=[]
 ·subst hn
  exact run_convert_bytes_back (P:=P) w S D e ⟨b,0,none⟩ cap [] hS he hD (fun j hj=>by simp at hj)
 ·exact run_convert_bytes_arg (P:=P) w S e hS he b 0 l.length cap l rfl (fun i hi=>by
    obtain ⟨C,h1,h2,h3⟩:=h.at hi
    rw [Nat.zero_add]
    simpa [World.cell?,h1] using h3) D hD
theorem Bts.fr (hb:Bts w1 b cap T l) (h:Fr w1 X1 Bo N st ρ a w) (hX:X1 b):Bts w b cap T l:=hb.keep (h.kp.block b hb.lt fun hc=>(h.pn.bo b hc).2 hX)
end
section
variable {P:Program} {Q:Exit->Act->World->Prop} {ops:Array Oper} {o:Oper} {rest:List Oper} {a:Act} {w w':World} {b n cap:Nat} {T S D e:TypeId} {x y:Operand}
theorem wpList_len (hg:o.guard=none) (ho:o.op=.call { callee:=.builtin .len,args:=#[x],argTypes:=#[T] }) (hu:P.underlying T=some (.slice e)) {ad:Option Addr} (hx:a.eval x=.slice ad n cap) (hK:wpList P ops Q rest (a.put o.dst (.int .i64 n)) w):wpList P ops Q (o::rest) a w:=by
 refine wpList_plain hg fun K hK'=>?_
 unfold Oper.wp
 have h:(Builtin.len_ #[T] o.type #[a.eval x]).run P w=.ok (goInt n) w:=by rw [hx]; simp [Builtin.len_,run_underlying hu]
 simp [execOp,ho,resolve,invoke,builtin,h,goInt,Result.andThen]
 exact hK' _ _ hK
theorem wpList_conv (hg:o.guard=none) (ho:o.op=.convert S D x) {v:Value} (hr:(convert S D (a.eval x)).run P w=.ok v w') (hK:wpList P ops Q rest (a.put o.dst v) w'):wpList P ops Q (o::rest) a w:=by
 refine wpList_plain hg fun K hK'=>?_
 unfold Oper.wp
 simp [execOp,ho,hr,Result.andThen]
 exact hK' _ _ hK
theorem wpList_idx {te:TE} (hf:TyFact P e te) (hty:te.ty=.int .u8) (hg:o.guard=none) (ho:o.op=.indexAddr T x y) (hu:P.underlying T=some (.slice e)) (hx:a.eval x=.slice (some ⟨b,0,none⟩) n cap) {k:Nat} (hy:a.eval y=.int .i64 (k:Int)) (hk:k<n) (hK:wpList P ops Q rest (a.put o.dst (.pointer (some ⟨b,k,none⟩))) w):wpList P ops Q (o::rest) a w:=by
 refine wpList_plain hg fun K hK'=>?_
 unfold Oper.wp
 have hsz:(sizeOf e).run P w=.ok 1 w:=by have:=hf.run_size (w:=w); rw [hty] at this; exact this
 have h:(Instr.indexAt T (.slice (some ⟨b,0,none⟩) n cap) (.int .i64 (k:Int))).run P w=.ok (.pointer (some ⟨b,k,none⟩)) w:=by
  have h0:(0:Int)<=(k:Int):=Int.natCast_nonneg _
  simp [Instr.indexAt,asIntOf,run_underlying hu,hk,hsz,Addr.add_lit]
 simp [execOp,ho,hx,hy,h,Result.andThen]
 exact hK' _ _ hK
theorem wpList_load1 {te:TE} {T':TypeId} {l:List Int} (hf:TyFact P T te) (hty:te.ty=.int .u8) (hg:o.guard=none) (ho:o.op=.load T x) (hb:Bts w b cap T' l) {k:Nat} (hk:k<l.length) (hx:a.eval x=.pointer (some ⟨b,k,none⟩)) (hK:wpList P ops Q rest (a.put o.dst (.int .u8 (l.getD k 0))) w):wpList P ops Q (o::rest) a w:=by
 refine wpList_plain hg fun K hK'=>?_
 unfold Oper.wp
 have h:(Instr.loadAt T (.pointer (some ⟨b,k,none⟩))).run P w=.ok (.int .u8 (l.getD k 0)) w:=by
  simp only [Instr.loadAt,Instr.sureAddr,Sem.run_bind,Sem.run_pure,Result.andThen_ok]
  exact bts_load hf hty hb hk
 simp [execOp,ho,hx,h,Result.andThen]
 exact hK' _ _ hK
theorem wpList_store1 {te:TE} {T':TypeId} {l:List Int} (hf:TyFact P T te) (hty:te.ty=.int .u8) (hg:o.guard=none) (ho:o.op=.store T x y) (hb:Bts w b cap T' l) {k:Nat} (hk:k<l.length) (hx:a.eval x=.pointer (some ⟨b,k,none⟩)) {c:Int} (hy:a.eval y=.int .u8 c) (hc:0<=c/\c<=255)
    (hK:∀ w',Bts w' b cap T' (l.set k c)->w'.heap.size=w.heap.size->(∀ k,k≠b->w'.heap[k]?=w.heap[k]?)->w'.os=w.os/\w'.tape=w.tape/\w'.output=w.output->wpList P ops Q rest (a.put o.dst undef) w'):wpList P ops Q (o::rest) a w:=by
 obtain ⟨w',hr,h1,h2,h3,h4⟩:=bts_store hf hty hb hk hc
 refine wpList_plain hg fun K hK'=>?_
 unfold Oper.wp
 simp [execOp,ho,hx,hy,Instr.storeAt,Instr.sureAddr,hr,Result.andThen]
 exact hK' _ _ (hK w' h1 h2 h3 h4)
end
end Go.Proofs.YtdobkkhncfifeabGreat.Gx
namespace Go.Proofs.YtdobkkhncfifeabGreat.Gx
open Go Go.RowKit Tw B Nt
set_option linter.unusedVariables false
set_option linter.unusedSimpArgs false
set_option maxHeartbeats 4000000
set_option maxRecDepth 100000
def pats:List Str:=[[82,40,120,44,32,121,41],[82,40,120,44,32,121,41,44,32,83,40,121,41],[82,40,120,44,32,121,41,44,32,83,40,120,41],[82,40,120,44,32,121,41,44,32,75,40,121,44,32,122,41],[75,40,120,44,32,121,41,44,32,83,40,121,41],[82,40,120,44,32,121,41,44,32,82,40,121,44,32,122,41],[82,40,120,44,32,121,41,44,32,82,40,121,44,32,120,41],[67,40,120,44,32,121,41,44,32,82,40,121,44,32,122,41],[82,40,120,44,32,121,41,44,32,110,111,116,32,83,40,121,41],[83,40,120,41,44,32,110,111,116,32,82,40,120,44,32,64,41],[67,40,120,44,32,121,41,44,32,83,40,121,41,44,32,110,111,116,32,75,40,120,44,32,121,41],[82,40,120,44,32,121,41,44,32,83,40,120,41,44,32,83,40,121,41],[75,40,120,44,32,121,41,44,32,75,40,122,44,32,121,41],[82,40,120,44,32,64,41],[83,40,120,41,44,32,75,40,120,44,32,64,41],[82,40,120,44,32,121,41,44,32,120,32,60,32,121],[82,40,120,44,32,121,41,44,32,83,40,122,41,44,32,121,32,33,61,32,122],[83,40,120,41,44,32,83,40,121,41,44,32,120,32,60,61,32,121],[67,40,120,44,32,121,41,44,32,110,111,116,32,82,40,120,44,32,121,41],[82,40,120,44,32,120,41],[83,40,120,41,44,32,120,32,61,32,64],[75,40,120,44,32,121,41,44,32,82,40,121,44,32,122,41,44,32,83,40,122,41],[82,40,120,44,32,121,41,44,32,82,40,120,44,32,122,41,44,32,121,32,60,32,122],[75,40,120,44,32,64,41,44,32,67,40,121,44,32,120,41]]
def atB (m:Nat) (b:UInt8):UInt8:=if b=64 then UInt8.ofNat (49+m) else b
def txt (k m:Nat):Str:=(pats.getD k []).map (atB m)
def txts:List Str:=(List.range 24).flatMap fun k=>(List.range 3).map (txt k)
theorem t1:∀ s∈txts,s.length<=100:=by decide +kernel
theorem t2:∀ s∈txts,(lexP s).2=true:=by decide +kernel
theorem t3:∀ s∈txts,∀ k,k<s.length->chr s k≠39/\chr s k≠10:=by decide +kernel
theorem t4:∀ s∈txts,peekP (ps0 s) [40]=false:=by decide +kernel
theorem t5:∀ s∈txts,dnP (cqP' (ps0 s)).1=true:=by decide +kernel
theorem t6:∀ s∈txts,(takP (ps0 s) [102,97,108,115,101]).2=false:=by decide +kernel
theorem t7:∀ s∈txts,cqK 50000 (takP (ps0 s) [116,114,117,101]).1 true=true/\(takP (cqP' (ps0 s)).1 [111,114]).2=false:=by decide +kernel
theorem t8:∀ s∈txts,((0:Int)<=(ps0 s).2.1/\(ps0 s).2.1<=((ps0 s).1.length:Int))/\(ps0 s).1.length<=20000/\∀ t∈(ps0 s).1,t.1≠3/\(t.1=2->t.2=[49]∨t.2=[50]∨t.2=[51]):=by decide +kernel
theorem t9:∀ s∈txts,(cqOf s).1.length<=1000/\(∀ a∈(cqOf s).1,a.2.2.length<=1000)/\(cqOf s).2.length<=1000:=by decide +kernel
theorem txts_K {s:Str} (h:s∈txts):pqK s :=
 ⟨⟨Nat.le_trans (t1 s h) (by decide),fun k hk=>(t3 s h k hk).1⟩,⟨Nat.le_trans (t1 s h) (by decide),fun k hk=>(t3 s h k hk).2⟩,t2 s h,t8 s h,t4 s h,⟨t6 s h,t7 s h⟩,t5 s h⟩
theorem txt_in {k m:Nat} (hk:k<24) (hm:m<3):txt k m∈txts :=
 List.mem_flatMap.2 ⟨k,List.mem_range.2 hk,List.mem_map.2 ⟨m,List.mem_range.2 hm,rfl⟩⟩
@[go_sem] noncomputable def EKI:Env:=EKH
theorem EKI_ok:EKI.Ok:=EKH_ok
@[go_sem] def patS:Spec:=⟨[],fun d=>(.dat (.slice .str) pats,[])⟩
theorem pat_ok:SpecOk Tryz.prog 13 patS:=by
 refine fn_ok EKI_ok patS Tryz.func13 rfl (by decide) (N:=2) rfl (res:=[.tmp 0]) rfl (by decide) [(1,[(1,.dt)])] [] [] 100 (by kernel_rfl) ?_
 rintro ⟨_⟩ hw hp
 refine ⟨rfl,fun H hH=>?_⟩
 dsimp only [go_sem] at hw hp ⊢
 exact ⟨rfl,trivial⟩
@[go_sem] def rdS:Spec:=⟨[.str,.int .i64],fun d=>(.dat cqT (cqOf (List.map (atB (d.2.1 % 3).toNat) d.1)),[List.length d.1<=100/\0<=d.2.1/\pqK (List.map (atB (d.2.1 % 3).toNat) d.1)])⟩
theorem bytesI_at (s:List UInt8) {k:Nat} (h:k<s.length):(bytesI s).getD k 0=((s.getD k 0).toNat:Int):=by
 unfold bytesI
 simp [h]
theorem set_part {f:UInt8->UInt8} {s:List UInt8} {k:Nat} (h:k<s.length):(bytesI ((s.take k).map f++s.drop k)).set k ((f (s.getD k 0)).toNat:Int)=bytesI ((s.take (k+1)).map f++s.drop (k+1)):=by
 rw [List.drop_eq_getElem_cons h,List.take_succ_eq_append_getElem h]
 have hk:((s.take k).map f).length=k:=by simp; omega
 unfold bytesI
 simp only [List.map_append,List.map_cons,List.map_nil,List.append_assoc,List.cons_append,List.nil_append]
 rw [List.set_append_right _ _ (by simp; omega)]
 simp [h,Nat.min_eq_left (Nat.le_of_lt h)]
theorem part_at {f:UInt8->UInt8} {s:List UInt8} {k:Nat} (h:k<s.length):(bytesI ((s.take k).map f++s.drop k)).getD k 0=((s.getD k 0).toNat:Int):=by
 rw [bytesI_at _ (by simp; omega)]
 congr 2
 rw [List.getD_eq_getElem?_getD,List.getElem?_append_right (by rw [List.length_map,List.length_take]; omega)]
 simp [Nat.min_eq_left (Nat.le_of_lt h),h]
theorem part_same {f:UInt8->UInt8} {s:List UInt8} {k:Nat} (h:k<s.length) (he:f (s.getD k 0)=s.getD k 0):(s.take k).map f++s.drop k=(s.take (k+1)).map f++s.drop (k+1):=by
 rw [List.drop_eq_getElem_cons h,List.take_succ_eq_append_getElem h]
 have:s.getD k 0=s[k]:=by simp [h]
 rw [this] at he
 simp only [List.map_append,List.map_cons,List.map_nil,he,List.append_assoc,List.cons_append,List.nil_append]
theorem rd_ok:SpecOk Tryz.prog 14 rdS:=by
 refine fn_ok EKI_ok rdS Tryz.func14 rfl (by decide) (N:=44) rfl (res:=[.cell 4 29]) rfl (by decide) [] [] [1] 100 (by kernel_rfl) ?_
 rintro ⟨s,(n:Int),_⟩ hw hp
 refine ⟨rfl,fun H hH=>?_⟩
 dsimp only [go_sem] at hw hp ⊢
 obtain ⟨⟨hp1,hp2,hp3⟩,-⟩:=hp
 change List UInt8 at s
 change List.length s<=100 at hp1
 clear hw
 generalize hm3:(n % 3).toNat=m at hp3 ⊢
 have hln:(bytesI s).length=s.length:=List.length_map ..
 refine hH.raw fun w0 X0 Bo Q hnb hE hX0 hfin ρ a w hf=>?_
 have hBo:Bo=[]:=List.length_eq_zero_iff.1 hnb.symm
 subst hBo
 refine region_pre (pre:=[_]) (post:=[_,_]) (ann:=[]) EKI_ok hX0 rfl hf rfl trivial (by rfl) fun ρ1 a1 w1 hf1=>?_
 obtain ⟨csx,⟨ex1,ex2⟩,ex⟩:=lk_ok hf1.sl (x:=.tmp 9) rfl rfl
 have ex:=(List.cons.inj ex).1
 rw [ex1] at ex
 have hstr:Tryz.prog.underlying 9=some .string:=by kernel_rfl
 have hbs:Tryz.prog.underlying 69=some (.slice 5):=by kernel_rfl
 have hu8:Tryz.prog.underlying 5=some (.int .u8):=by kernel_rfl
 obtain ⟨cap,w2,hr,hb2,hbl⟩:=bts_new (P:=Tryz.prog) (w:=w1) (S:=9) (D:=69) (s:=s) hstr hbs hu8 ex2
 refine wpList_conv rfl rfl (by rw [ex]; exact hr) ?_
 rw [hln]
 obtain ⟨mb,hmb⟩:∃ mb,mb=w1.heap.size:=⟨_,rfl⟩
 rw [<-hmb] at hb2 ⊢
 have hle1:w0.heap.size<=w1.heap.size:=hf1.kp.size
 have hX1:∀ b,(X0 b∨b=mb)->X0 b∨w1.heap.size<=b:=fun b hb=>hb.imp id fun e=>by omega
 have hf2:=hf1.base (X1:=fun b=>X0 b∨b=mb) hX0 hbl hX1
 have hX1b:∀ w2:World,w0.heap.size<=w2.heap.size->mb<w2.heap.size->∀ b,(X0 b∨b=mb)->b<w2.heap.size:=fun w2 h1 h2 b hb=>by
  rcases hb with hb|hb
  ·exact Nat.lt_of_lt_of_le (hX0 b hb) h1
  ·omega
 have hk2:Kept [] w0 w2:=hf1.kp.below hbl
 have hXw2:=hX1b _ hk2.size hb2.lt
 have hf3:=hf2.pure hXw2 (Below.refl _ _) (d:=some 10) (r:=.val (.slice (some ⟨mb,0,none⟩) s.length cap)) (v:=.slice (some ⟨mb,0,none⟩) s.length cap) (by intro t e; cases e; show 10<44; decide) rfl
 refine pre_ok (ann:=[]) (ds:=dsts [_,_,_]) (l:=[_]) (r:=[]) EKI_ok hXw2 (fun g=>dsts_ok _ g) hf3 (ps0:=[]) rfl trivial (List.all_eq_true.1 (by rfl)) fun ρ4 a4 w4 hf4=>?_
 have hB4:=mkB_ge hf1 (Nat.le_refl _) (fun k h=>(inB_nil h).elim)
 refine run_h (S:=⟨EKI,44,[],[],[3,5,6,7],[.cell 4 29],.dat cqT (cqOf (List.map (atB (n % 3).toNat) s)),(mkB ρ1 _).length,none⟩) rfl EKI_ok hXw2 (fun st ρ' a' w' h1 h2=>hfin st ρ' a' w' h1 (h2.low3 hk2 hB4 (fun b hb=>.inl hb))) (fun H hH hraw=>?_) (by kernel_rfl) ρ4 a4 w4 hf4
 refine hH.run 100 _ _ ?_
 dsimp only [go_sem]
 refine hraw _ _ ?_
 intro hok5 ρ5 a5 w5 hf5
 refine floop (fun (k:Nat) a w=>k<=s.length/\∃ Bo ρ w1,(∀ b,(X0 b∨b=mb)->b<w1.heap.size)/\(∀ q,inB Bo q->w0.heap.size<=q)/\Kept [] w0 w1/\Fr w1 (fun b=>X0 b∨b=mb) Bo 44 ⟨[(6,.dat (.int .i64) (k:Int)),(5,.val (.slice (some ⟨mb,0,none⟩) s.length cap)),(4,.ref 0 0),(1,.dat (.int .i64) n)],[(0,.box 29 (zA cqT .nil))],1⟩ ρ a w/\Bts w1 mb cap 5 (bytesI ((s.take k).map (atB m)++s.drop k))) (fun k=>s.length-k) 0
  ⟨Nat.zero_le _,_,_,w2,hXw2,hB4,hk2,hf5.slots ?_,hb2⟩ ?_
 ·intro t x hx
  have hx:=get?_mem hx
  simp only [List.mem_cons,Prod.mk.injEq,List.not_mem_nil,or_false] at hx
  rcases hx with ⟨rfl,rfl⟩|⟨rfl,rfl⟩|⟨rfl,rfl⟩|⟨rfl,rfl⟩<;>rfl
 rintro k a5 w5 ⟨hk,Bo5,ρ5,w51,hX5,hB5,hk5,hf5,hb5⟩
 rw [<-sem_mark]
 have hlk:∀ k,k<=s.length->(bytesI ((s.take k).map (atB m)++s.drop k)).length=s.length:=fun k hk=>by
  unfold bytesI
  rw [List.length_map,List.length_append,List.length_map,List.length_take,List.length_drop]
  omega
 have hlk5:=hlk k hk
 have ht8:=EKI_ok.fact (show EKI.te 5=some _ from rfl)
 refine run_h (S:=⟨EKI,44,[],[],[3,5,6,7],[.cell 4 29],.dat cqT (cqOf (List.map (atB (n % 3).toNat) s)),Bo5.length,none⟩) (k:=.code _::.mark _::_) rfl EKI_ok hX5 (fun st ρ' a' w' h1 h2=>hfin st ρ' a' w' h1 (h2.low3 hk5 hB5 (fun b hb=>.inl hb))) (fun H hH hraw=>?_) (by kernel_rfl) ρ5 a5 w5 hf5
 refine hH.run 100 _ _ ?_
 dsimp only [go_sem]
 refine hraw _ _ ?_
 intro hok6 ρ6 a6 w6 hf6
 refine region_pre (pre:=[_,_]) (post:=[_,_]) (ann:=[]) EKI_ok hX5 rfl hf6 rfl trivial (by rfl) fun ρ7 a7 w7 hf7=>?_
 have em:=(List.cons.inj (lk_ok hf7.sl (x:=.tmp 12) rfl rfl)).1
 refine wpList_len rfl rfl hbs em ?_
 have hf8:=hf7.pure hX5 (Below.refl _ _) (d:=some 13) (r:=.dat (.int .i64) (s.length:Int)) (v:=.int .i64 (s.length:Int)) (by intro t e; cases e; show 13<44; decide) (m_int_of (by rw [inR_i64]; omega))
 refine pre_ok (ann:=[]) (ds:=dsts [_,_,_,_]) (l:=[_]) (r:=[]) EKI_ok hX5 (fun g=>dsts_ok _ g) hf8 (ps0:=[]) rfl trivial (List.all_eq_true.1 (by rfl)) fun ρ9 a9 w9 hf9=>?_
 refine run_h (S:=⟨EKI,44,[],[],[3,5,6,7],[.cell 4 29],.dat cqT (cqOf (List.map (atB (n % 3).toNat) s)),Bo5.length,none⟩) rfl EKI_ok hX5 (fun st ρ' a' w' h1 h2=>hfin st ρ' a' w' h1 (h2.low3 hk5 hB5 (fun b hb=>.inl hb))) (fun H hH hraw=>?_) (by kernel_rfl) ρ9 a9 w9 hf9
 refine hH.run 100 _ _ ?_
 dsimp only [go_sem]
 refine ⟨fun d=>hraw _ _ ?_,fun d=>hraw _ _ ?_⟩<;>simp only [decide_eq_true_eq,decide_eq_false_iff_not] at d
 ·have d:k<s.length:=by omega
  intro hok10 ρ10 a10 w10 hf10
  refine region_pre (pre:=[_,_]) (post:=[_,_,_]) (ann:=[]) EKI_ok hX5 rfl hf10 rfl trivial (by rfl) fun ρ11 a11 w11 hf11=>?_
  have e17:=(List.cons.inj (lk_ok hf11.sl (x:=.tmp 17) rfl rfl)).1
  have e18:=(m_int (lk_ok hf11.sl (x:=.tmp 18) rfl rfl)).1
  have hb11:=hb5.fr hf11 (.inr rfl)
  refine wpList_idx ht8 rfl rfl rfl hbs e17 e18 d ?_
  have hf12:=hf11.pure hX5 (Below.refl _ _) (d:=some 19) (r:=.val (.pointer (some ⟨mb,k,none⟩))) (v:=.pointer (some ⟨mb,k,none⟩)) (by intro t e; cases e; show 19<44; decide) rfl
  have e19:=(List.cons.inj (lk_ok hf12.sl (x:=.tmp 19) rfl rfl)).1
  refine wpList_load1 ht8 rfl rfl rfl hb11 (by rw [hlk5]; exact d) e19 ?_
  rw [part_at d]
  have hc8:=(s.getD k 0).toNat_lt
  have hf13:=hf12.pure hX5 (Below.refl _ _) (d:=some 20) (r:=.dat (.int .u8) ((s.getD k 0).toNat:Int)) (v:=.int .u8 ((s.getD k 0).toNat:Int)) (by intro t e; cases e; show 20<44; decide) (m_int_of (by simp only [inR,lo,hi]; omega))
  refine pre_ok (ann:=[]) (ds:=dsts [_,_,_,_,_]) (l:=[_]) (r:=[]) EKI_ok hX5 (fun g=>dsts_ok _ g) hf13 (ps0:=[]) rfl trivial (List.all_eq_true.1 (by rfl)) fun ρ14 a14 w14 hf14=>?_
  refine run_h (S:=⟨EKI,44,[],[],[3,5,6,7],[.cell 4 29],.dat cqT (cqOf (List.map (atB (n % 3).toNat) s)),Bo5.length,none⟩) rfl EKI_ok hX5 (fun st ρ' a' w' h1 h2=>hfin st ρ' a' w' h1 (h2.low3 hk5 hB5 (fun b hb=>.inl hb))) (fun H hH hraw=>?_) (by kernel_rfl) ρ14 a14 w14 hf14
  refine hH.run 100 _ _ ?_
  dsimp only [go_sem]
  refine ⟨fun e=>hraw _ _ ?_,fun e=>?_⟩<;>simp only [decide_eq_true_eq,decide_eq_false_iff_not] at e
  ·intro hok15 ρ15 a15 w15 hf15
   have hm2:m<3:=by omega
   have hmi:(m:Int)=n % 3:=by omega
   have htm:n.tmod 3=(m:Int):=by rw [Int.tmod_eq_emod_of_nonneg hp2,hmi]
   have heb:s.getD k 0=64:=UInt8.toNat_inj.1 (by show (s.getD k 0).toNat=64; omega)
   have hfb:((atB m (s.getD k 0)).toNat:Int)=49+n.tmod 3:=by
    rw [heb,htm]
    show ((UInt8.ofNat (49+m)).toNat:Int)=_
    rw [UInt8.toNat_ofNat']
    omega
   refine region_pre (pre:=[_,_,_,_,_,_]) (post:=[_,_]) (ann:=[]) EKI_ok hX5 rfl hf15 rfl ?_ (by rfl) fun ρ16 a16 w16 hf16=>?_
   ·dsimp only [go_sem]
    rw [htm]
    refine ⟨by decide,by rw [inR_i64]; omega,by rw [inR_i64]; omega,by simp only [inR,lo,hi]; omega,trivial⟩
   have e22:=(List.cons.inj (lk_ok hf16.sl (x:=.tmp 22) rfl rfl)).1
   have e23:=(m_int (lk_ok hf16.sl (x:=.tmp 23) rfl rfl)).1
   have hb16:=hb5.fr hf16 (.inr rfl)
   refine wpList_idx ht8 rfl rfl rfl hbs e22 e23 d ?_
   have hf17:=hf16.pure hX5 (Below.refl _ _) (d:=some 28) (r:=.val (.pointer (some ⟨mb,k,none⟩))) (v:=.pointer (some ⟨mb,k,none⟩)) (by intro t e; cases e; show 28<44; decide) rfl
   have e28:=(List.cons.inj (lk_ok hf17.sl (x:=.tmp 28) rfl rfl)).1
   have e27:=(m_int (lk_ok hf17.sl (x:=.tmp 27) rfl rfl)).1
   refine wpList_store1 ht8 rfl rfl rfl hb16 (by rw [hlk5]; exact d) e28 e27 (by rw [htm]; omega) fun w18 hb18 hs18 hk18 ho18=>?_
   rw [<-hfb,set_part d] at hb18
   have hf18:=hf17.poke hX5 (.inr rfl) hs18 hk18
   have hB18:=mkB_ge hf17 hk5.size hB5
   have hk16:Kept [] w0 w16:=by
    have hkp:=hf17.kp
    exact ⟨hkp.os.trans hk5.os,hkp.tape.trans hk5.tape,hkp.output.trans hk5.output,Nat.le_trans hk5.size hkp.size,fun q hq hn=>by rw [hkp.block q (Nat.lt_of_lt_of_le hq hk5.size) fun hc=>absurd (hB5 q hc) (by omega)]; exact hk5.block q hq hn⟩
   have hk18':Kept [] w0 w18:=hk16.poke hs18 hk18 ho18 (by omega)
   have hX18:=hX1b w18 hk18'.size hb18.lt
   have hf19:=hf18.pure hX18 (Below.refl _ _) (d:=none) (r:=.val undef) (v:=undef) (by intro t e; cases e) rfl
   refine wpList_nil ?_
   refine run_h (S:=⟨EKI,44,[],[],[3,5,6,7],[.cell 4 29],.dat cqT (cqOf (List.map (atB (n % 3).toNat) s)),(mkB ρ16 _).length,none⟩) rfl EKI_ok hX18 (fun st ρ' a' w' h1 h2=>hfin st ρ' a' w' h1 (h2.low3 hk18' hB18 (fun b hb=>.inl hb))) (fun H hH hraw=>?_) (by kernel_rfl) _ _ _ hf19
   refine hH.run 100 _ _ ?_
   dsimp only [go_sem]
   refine ⟨by rw [inR_i64]; omega,hraw _ _ ?_⟩
   intro hok20 ρ20 a20 w20 hf20
   refine ⟨k+1,⟨by omega,_,_,w18,hX18,hB18,hk18',hf20.slots ?_,hb18⟩,by omega⟩
   intro t x hx
   have hx:=get?_mem hx
   simp only [List.mem_cons,Prod.mk.injEq,List.not_mem_nil,or_false] at hx
   rcases hx with ⟨rfl,rfl⟩|⟨rfl,rfl⟩|⟨rfl,rfl⟩|⟨rfl,rfl⟩<;>rfl
  ·refine ⟨by rw [inR_i64]; omega,hraw _ _ ?_⟩
   intro hok20 ρ20 a20 w20 hf20
   have hfb:atB m (s.getD k 0)=s.getD k 0:=if_neg fun h=>e (by rw [h]; rfl)
   rw [part_same d hfb] at hb5
   refine ⟨k+1,⟨by omega,_,_,w51,hX5,hB5,hk5,hf20.slots ?_,hb5⟩,by omega⟩
   intro t x hx
   have hx:=get?_mem hx
   simp only [List.mem_cons,Prod.mk.injEq,List.not_mem_nil,or_false] at hx
   rcases hx with ⟨rfl,rfl⟩|⟨rfl,rfl⟩|⟨rfl,rfl⟩|⟨rfl,rfl⟩<;>rfl
 ·have d:k=s.length:=by omega
  intro hok10 ρ10 a10 w10 hf10
  refine region_pre (pre:=[_]) (post:=[_,_,_,_,_,_,_,_]) (ann:=[]) EKI_ok hX5 rfl hf10 rfl trivial (by rfl) fun ρ11 a11 w11 hf11=>?_
  have e30:=(List.cons.inj (lk_ok hf11.sl (x:=.tmp 30) rfl rfl)).1
  have hb11:=hb5.fr hf11 (.inr rfl)
  subst d
  rw [List.take_length,List.drop_length,List.append_nil] at hb11
  obtain ⟨hr31,hl31⟩:=bts_text (P:=Tryz.prog) (S:=69) (D:=9) hbs hu8 hstr hb11
  rw [str_bytes] at hr31 hl31
  have hlm:(bytesI (List.map (atB m) s)).length=s.length:=by unfold bytesI; rw [List.length_map,List.length_map]
  rw [hlm] at hr31
  refine wpList_conv rfl rfl (by rw [e30]; exact hr31) ?_
  have hf12:=hf11.pure hX5 (Below.refl _ _) (d:=some 31) (r:=.dat .str (List.map (atB m) s)) (v:=.string ⟨(List.map (atB m) s).toArray⟩) (by intro t e; cases e; show 31<44; decide) ⟨_,⟨rfl,hl31⟩,rfl⟩
  refine pre_ok (ann:=[]) (ds:=dsts [_,_,_,_,_,_,_,_,_]) (l:=[_,_,_,_,_,_,_]) (r:=[]) EKI_ok hX5 (fun g=>dsts_ok _ g) hf12 (ps0:=[]) rfl ⟨hp3,trivial⟩ (List.all_eq_true.1 (by rfl)) fun ρ14 a14 w14 hf14=>?_
  refine run_h (S:=⟨EKI,44,[],[],[3,5,6,7],[.cell 4 29],.dat cqT (cqOf (List.map (atB (n % 3).toNat) s)),Bo5.length,none⟩) rfl EKI_ok hX5 (fun st ρ' a' w' h1 h2=>hfin st ρ' a' w' h1 (h2.low3 hk5 hB5 (fun b hb=>.inl hb))) (fun H hH hraw=>?_) (by kernel_rfl) ρ14 a14 w14 hf14
  refine hH.run 100 _ _ ?_
  dsimp only [go_sem]
  refine ⟨fun h=>?_,fun h=>⟨⟨by decide,by show (0:Int)<1; decide⟩,?_,trivial⟩⟩
  ·exact absurd h (by simp)
  ·rw [hm3]
   rfl
@[go_sem] noncomputable def EKJ:Env:=((EKI).add 13 patS).add 14 rdS
theorem EKJ_ok:EKJ.Ok:=((EKI_ok).add pat_ok).add rd_ok
def cqN (n:Int):Cq:=cqOf (txt ((n % 65536) % 24).toNat ((n / 64 % 8) % 3).toNat)
theorem cqN_in (n:Int):txt ((n % 65536) % 24).toNat ((n / 64 % 8) % 3).toNat∈txts:=txt_in (by omega) (by omega)
theorem cqN_P (n:Int):cqP (cqN n):=t9 _ (cqN_in n)
@[go_sem] def bcqS:Spec:=⟨[.int .i64],fun d=>(.dat cqT (cqN d.1),[])⟩
theorem bcq_ok:SpecOk Tryz.prog 12 bcqS:=by
 refine fn_ok EKJ_ok bcqS Tryz.func12 rfl (by decide) (N:=17) rfl (res:=[.cell 2 29]) rfl (by decide) [] [] [] 100 (by kernel_rfl) ?_
 rintro ⟨(n:Int),_⟩ hw hp
 refine ⟨rfl,fun H hH=>?_⟩
 dsimp only [go_sem] at hw hp ⊢
 have e1:bitsI .and .i64 n 65535=n % 65536:=andMask n 16 (by omega)
 have e2:shrI .i64 n 6=n / 64:=Int.fdiv_eq_ediv_of_nonneg _ (by decide)
 have e3:bitsI .and .i64 (n / 64) 7=n / 64 % 8:=andMask (n / 64) 3 (by omega)
 have hl:(pats.length:Int)=24:=rfl
 have e4:(n % 65536).tmod 24=n % 65536 % 24:=Int.tmod_eq_emod_of_nonneg (by omega)
 simp only [e1,e2,e3,hl,e4]
 have hr:n % 65536 % 24<24:=by omega
 have hr0:0<=n % 65536 % 24:=by omega
 have ht:pats.getD (n % 65536 % 24).toNat (zd .str)=pats.getD (n % 65536 % 24).toNat []:=rfl
 have hpl:(pats.getD (n % 65536 % 24).toNat []).length<=100:=by
  have:=t1 _ (cqN_in n)
  unfold txt at this
  rw [List.length_map] at this
  exact this
 have hK:=txts_K (cqN_in n)
 have h8:(0:Int)<=n / 64 % 8:=by omega
 refine ⟨by decide,by rw [inR_i64]; omega,⟨hr0,hr⟩,by decide,⟨hpl,h8,hK⟩,rfl,trivial⟩
end Go.Proofs.YtdobkkhncfifeabGreat.Gx
namespace Go.Proofs.YtdobkkhncfifeabGreat.Gx
open Go Go.RowKit Tw B Nt
set_option linter.unusedVariables false
set_option linter.unusedSimpArgs false
set_option maxHeartbeats 4000000
set_option maxRecDepth 20000
def bat (l:List Int) (i:Int):Int:=if l.length=0 then i % 65536 else l.getD (i % l.length).toNat 0 % 65536+i / l.length
@[go_sem] def bAtS:Spec:=⟨[.slice (.int .i64),.int .i64],fun d=>(.dat (.int .i64) (bat d.1 d.2.1),[(0:Int)<=d.2.1/\d.2.1<=1000000])⟩
theorem bAt_ok:SpecOk Tryz.prog 11 bAtS:=by
 refine fn_ok E6_ok bAtS Tryz.func11 rfl (by decide) (N:=23) rfl (res:=[.tmp 4]) rfl (by decide) [] [] [] 100 (by kernel_rfl) ?_
 rintro ⟨l,(i:Int),_⟩ hw hp
 refine ⟨rfl,fun H hH=>?_⟩
 dsimp only [go_sem] at hw hp ⊢
 obtain ⟨⟨hi0,hi1⟩,-⟩:=hp
 have hi0:0<=i:=hi0
 have hi1:i<=1000000:=hi1
 obtain ⟨⟨hl,hr⟩,-⟩:=hw
 change ∀ x∈l,inR .i64 x at hr
 change List Int at l
 have hm (n:Int):bitsI .and .i64 n 65535=n % 65536:=andMask n 16 (by omega)
 have hz:(zd (Ty.int IntKind.i64))=(0:Int):=rfl
 have hb:bat l i=if l.length=0 then i % 65536 else l.getD (i % l.length).toNat 0 % 65536+i / l.length:=rfl
 rw [hm,hm,hz,Int.tmod_eq_emod_of_nonneg hi0,Int.tdiv_eq_ediv_of_nonneg hi0]
 refine ⟨fun h=>?_,fun h=>?_⟩<;>simp only [decide_eq_true_eq,decide_eq_false_iff_not] at h
 ·rw [hb,if_pos (by omega)]
  exact ⟨rfl,trivial⟩
 ·have h:¬(l.length:Int)=0:=h
  have m0:=Int.emod_nonneg i h
  have m1:=Int.emod_lt_of_pos i (show 0<(l.length:Int) by omega)
  have d0:0<=i / (l.length:Int):=Int.ediv_nonneg hi0 (by omega)
  have d1:i / (l.length:Int)<=i:=Int.ediv_le_self _ hi0
  rw [hb,if_neg (by omega)]
  generalize l.getD (i % (l.length:Int)).toNat 0=x
  have x0:=Int.emod_nonneg x (show (65536:Int)≠0 by decide)
  have x1:=Int.emod_lt_of_pos x (show (0:Int)<65536 by decide)
  refine ⟨h,by rw [inR_i64]; omega,⟨m0,m1⟩,h,by rw [inR_i64]; omega,by rw [inR_i64]; omega,rfl,trivial⟩
theorem bat_nn (l:List Int) {i:Int} (h:0<=i):0<=bat l i:=by
 unfold bat
 split
 ·exact Int.emod_nonneg _ (by decide)
 ·rename_i h1
  have h2:=Int.emod_nonneg (l.getD (i % (l.length:Int)).toNat 0) (show (65536:Int)≠0 by decide)
  have h3:0<=i / (l.length:Int):=Int.ediv_nonneg h (by omega)
  omega
end Go.Proofs.YtdobkkhncfifeabGreat.Gx
