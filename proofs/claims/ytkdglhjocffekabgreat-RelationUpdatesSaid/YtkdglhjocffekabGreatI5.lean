/-
  slices.Delete of one tuple, on an own row.
-/
import Derived.Test.YtkdglhjocffekabGreatMI
import Derived.Lib.SliceRun
namespace Go.Proofs.YtkdglhjocffekabGreat.Gx
open Go Go.RowKit Tw B Nt Go.Lib
set_option linter.unusedVariables false
set_option linter.unusedSimpArgs false
theorem run_clear_sz {P:Program} (w:World) (t e ty:TypeId) (z:Value) (ht:P.underlying t=some (.slice e)) (hv:∀ w,(zeroValue e).run P w=.ok z w) (h1:∀ u∈z.cells.toList,u.oneCell'=true) (b o n c:Nat) (hn:0<n)
    (hc:∀ j,j<n*z.cells.size->(w.cell? ⟨b,o+j,none⟩).isSome=true) (hf:∀ j,j<n*z.cells.size->w.frozen? ⟨b,o+j,none⟩=false) :
    (Builtin.clear_ #[t] ty #[.slice (some ⟨b,o,none⟩) n c]).run P w=.ok (.tuple #[]) (w.setCells b o (Builtin.zeroCells z.cells n).toList):=by
 have hl:(Builtin.zeroCells z.cells n).toList.length=n*z.cells.size:=by rw [Array.length_toList,zero_size]
 have hst:=run_storeCells_cells (P:=P) b o (Builtin.zeroCells z.cells n).toList 0 w (by rw [hl]; simpa using hc) (by rw [hl]; simpa using hf) (fun u hu=>?_)
 ·have hz:¬n=0:=by omega
  simp [Builtin.clear_,run_underlying ht,hv,hst,hz]
 ·simp only [Builtin.zeroCells,Array.toList_map,List.mem_map] at hu
  obtain ⟨i,hi,rfl⟩:=hu
  have hi:i<n*z.cells.size:=by simpa using hi
  have hs:0<z.cells.size:=by
   rcases Nat.eq_zero_or_pos z.cells.size with e|e
   ·rw [e] at hi; omega
   ·exact e
  rw [getElem!_pos z.cells (i % z.cells.size) (Nat.mod_lt _ hs)]
  exact h1 _ (by simp)
def tupZ:Value:=.agg #[.slice none 0 0,.bool false,.slice none 0 0,.slice none 0 0]
set_option maxHeartbeats 4000000 in
set_option maxRecDepth 100000 in
theorem delT_walk (g n c i:Nat) (cs:List Value) (w:World) (hi:i<n) (hnc:n<=c) (hc63:c<=9223372036854775807) (hcl:cs.length=n*4)
    (hcs:∀ j v,cs[j]?=some v->w.cell? ⟨g,0+j,none⟩=some v) (hfz:∀ j,w.frozen? ⟨g,j,none⟩=false) (h1c:∀ v∈cs,v.oneCell'=true) :
    Calls Tryz.prog 25 #[.slice (some ⟨g,0,none⟩) n c,.int .i64 (i:Int),.int .i64 ((i+1:Nat):Int)] w fun e w' =>
     e=.returned (.slice (some ⟨g,0,none⟩) (n-1) c)/\w'=(w.drew.setCells g (i*4) (cs.drop ((i+1)*4))).setCells g ((n-1)*4) (Builtin.zeroCells tupZ.cells 1).toList:=by
 obtain ⟨i0,hi0,hz0,hzs,hzb⟩:=info_parts insIT
 have hu:Tryz.prog.underlying 29=some (.slice 38):=by kernel_rfl
 have hzv:∀ w,(zeroValue 38).run Tryz.prog w=.ok tupZ w:=fun w=>by simp [zeroValue,typeInfo,hi0,hz0,tupZ]
 obtain ⟨news,hnews⟩:∃ news,news=cs.drop ((i+1)*4):=⟨_,rfl⟩
 have hnl:news.length=(n-(i+1))*4:=by rw [hnews,List.length_drop,hcl]; omega
 have hget:∀ t u,news[t]?=some u->w.cell? ⟨g,0+((i+1)*4+t),none⟩=some u:=fun t u h=>by
  rw [hnews,List.getElem?_drop] at h
  exact hcs _ u h
 have hsome:∀ k,k<n*4->(w.cell? ⟨g,k,none⟩).isSome=true:=fun k hk=>by
  have:=hcs k _ (List.getElem?_eq_getElem (by omega))
  rw [Nat.zero_add] at this
  rw [this]; rfl
 obtain ⟨A,hA,hsrc⟩:∃ A:Addr,(if c=i+1 then (some ⟨g,0,none⟩:Option Addr) else some ⟨g,(i+1)*4,none⟩)=some A/\Hid (∀ t u,news[t]?=some u->w.drew.cell? (A.add t)=some u):=by
  by_cases h:c=i+1
  ·refine ⟨⟨g,0,none⟩,by simp [h],fun t u hu=>?_⟩
   have h0:news.length=0:=by rw [hnl]; omega
   rw [List.length_eq_zero_iff.1 h0] at hu
   simp at hu
  ·refine ⟨⟨g,(i+1)*4,none⟩,by simp [h],fun t u hu=>?_⟩
   rw [Addr.add_lit]
   have:=hget t u hu
   rwa [Nat.zero_add] at this
 have s1:Hid (news.length=(n-(i+1))*4):=hnl
 have s2:Hid (∀ u∈news,u.oneCell'=true):=fun u hu=>h1c u (by rw [hnews] at hu; exact List.mem_of_mem_drop hu)
 have s3:Hid (∀ t,t<news.length->(w.drew.cell? ⟨g,0+i*4+t,none⟩).isSome=true/\w.drew.frozen? ⟨g,0+i*4+t,none⟩=false):=fun t ht=>by
  rw [hnl] at ht
  exact ⟨hsome _ (by omega),hfz _⟩
 obtain ⟨W1,hW1⟩:∃ W1,W1=w.drew.setCells g (0+i*4) news:=⟨_,rfl⟩
 have hW:Hid (W1=w.drew.setCells g (0+i*4) news):=hW1
 have hsp1:∀ k,k<n*4->(W1.cell? ⟨g,k,none⟩).isSome=true:=fun k hk=>by
  rw [hW1]
  exact isSome_setCells g news (0+i*4) w.drew (fun j hj=>hsome (0+i*4+j) (by rw [hnl] at hj; omega)) _ (hsome k hk)
 obtain ⟨Z,hZ⟩:∃ Z,Z=(Builtin.zeroCells tupZ.cells 1).toList:=⟨_,rfl⟩
 have hZ':Hid (Z=(Builtin.zeroCells tupZ.cells 1).toList):=hZ
 have hcl:∀ ty,(Builtin.clear_ #[29] ty #[.slice (some ⟨g,(i+(n-(i+1)))*4,none⟩) (n-(i+(n-(i+1)))) (c-(i+(n-(i+1))))]).run Tryz.prog W1=.ok (.tuple #[]) (W1.setCells g ((n-1)*4) Z):=fun ty=>by
  rw [hZ]
  have e0:i+(n-(i+1))=n-1:=by omega
  have e1:n-(n-1)=1:=by omega
  rw [e0,e1]
  exact run_clear_sz W1 _ _ ty tupZ hu hzv (by decide) g ((n-1)*4) 1 _ (by decide) (fun j hj=>hsp1 _ (by have:tupZ.cells.size=4:=rfl; omega)) (fun j hj=>by rw [hW1,World.frozen?_setCells]; exact hfz _)
 have hic:i<=c:=by omega
 have hjc:i+1<=c:=by omega
 have hb2:(0:Int)<=(i:Int)+1:=by omega
 have hb3:(i:Int)+1<=(n:Int):=by omega
 have hin:i<=n:=by omega
 have htn:((i:Int)+1).toNat=i+1:=by omega
 have hne:¬((i:Int)=((i+1:Nat):Int)):=by omega
 have hz4:i0.size=4:=hzs
 have mixed:Tryz.prog.follows Departure.mixedOrders=true:=E3_ok.mx
 have hnw:Hid (news=cs.drop ((i+1)*4)):=hnews
 clear hget hnews hnl hsp1 hcs hsome hW1 hZ
 go_enter Tryz.func25,Tryz.ntmps25
 go_wp2_with fail
 go_region_law_o (refine step_append_room rfl (.tmp 22) (.tmp 25) 29 rfl 38 i0 4 hu hi0 hz4 g 0 i c (by simp [Act.eval,Act.put]) A (n-(i+1)) (c-(i+1)) news (by simp [Act.eval,Act.put]) s1.out hsrc.out s2.out (by omega) s3.out ?_; rw [<-hW.out])
 go_wp2
 go_ret
 refine ⟨?_,?_⟩
 ·rw [show i+(n-(i+1))=n-1 by omega]; rfl
 ·rw [hW.out,hnw.out,Nat.zero_add,hZ'.out]
theorem del_row {A M C R Z:List Value} (hZ:Z.length=M.length):putR (putR (A++M++C++R) A.length C) (A.length+C.length) Z=A++C++Z++R:=by
 have e1:putR (A++M++C++R) A.length C=A++C++(M++C++R).drop C.length:=by
  unfold putR
  have:A++M++C++R=A++(M++C++R):=by simp
  rw [this,List.take_left,List.drop_append,List.drop_of_length_le (by omega),List.nil_append,Nat.add_sub_cancel_left]
 rw [e1]
 unfold putR
 rw [<-List.length_append,List.take_left,List.drop_append,List.drop_of_length_le (by omega),List.nil_append,Nat.add_sub_cancel_left,List.drop_drop,hZ]
 congr 1
 have:C.length+M.length=(M++C).length:=by rw [List.length_append]; omega
 rw [this,List.drop_left]
theorem delT_own {w:World} {v:Value} {n i:Nat} {xs:List Value} (hown:w.ownsRow 0 38 4 v n xs) (h1:∀ u∈xs,u.oneCell'=true) (hi:i<n) (hn:n<=1000000) :
    Calls Tryz.prog 25 #[v,.int .i64 (i:Int),.int .i64 ((i+1:Nat):Int)] w fun e w'=>∃ v',e=.returned v'/\w'.ownsRow 0 38 4 v' (n-1) (xs.take (i*4)++xs.drop ((i+1)*4))/\w.grownBy w' (blk v)/\∀ b,blk v'=some b->blk v=some b∨w.heap.size<=b:=by
 rcases hown.2 with ⟨_,rfl⟩|⟨g,cap,cur,rfl,_,hg,hnc,hcm,hcs,hx⟩
 ·exact absurd hi (Nat.not_lt_zero _)
 have hxl:xs.length=n*4:=hown.1
 have hxc:∀ j v,xs[j]?=some v->w.cell? ⟨g,0+j,none⟩=some v:=fun j v hj=>by
  have:=hown.cells (g:=g) rfl j v hj
  rwa [Addr.add_lit] at this
 have hfz:∀ j,w.frozen? ⟨g,j,none⟩=false:=fun j=>frozenI (cur:=cur.toList) (T:=38) (by rw [hg])
 refine (delT_walk g n cap i xs w hi hnc (by unfold maxLen at hcm; omega) hxl hxc hfz h1).mono fun e w' ⟨he,hw⟩=>?_
 subst hw
 have hl:cur.toList.length=cap*4:=by simpa using hcs
 have hcur:cur.toList=xs.take (i*4)++(xs.drop (i*4)).take 4++xs.drop ((i+1)*4)++cur.toList.drop (n*4):=by
  have e1:(xs.drop (i*4)).take 4++xs.drop ((i+1)*4)=xs.drop (i*4):=by
   have:xs.drop ((i+1)*4)=(xs.drop (i*4)).drop 4:=by rw [List.drop_drop]; congr 1; omega
   rw [this,List.take_append_drop]
  rw [List.append_assoc (xs.take (i*4)),e1,List.take_append_drop,<-hx,List.take_append_drop]
 have hA:(xs.take (i*4)).length=i*4:=by rw [List.length_take]; omega
 have hM:((xs.drop (i*4)).take 4).length=4:=by rw [List.length_take,List.length_drop]; omega
 have hC:(xs.drop ((i+1)*4)).length=(n-1)*4-i*4:=by rw [List.length_drop]; omega
 have hZ:(Builtin.zeroCells tupZ.cells 1).toList.length=4:=by rw [Array.length_toList,zero_size]; rfl
 generalize (Builtin.zeroCells tupZ.cells 1).toList=Z at hZ ⊢
 have w1:=setCells_wr (g:=g) (T:=38) (xs.drop ((i+1)*4)) (i*4) w.drew cur.toList (by show w.heap[g]?=_; rw [hg]) (by omega)
 have w2:=setCells_wr (g:=g) (T:=38) Z ((n-1)*4) _ _ w1.at' (by rw [putR_len (by omega)]; omega)
 have hfin:putR (putR cur.toList (i*4) (xs.drop ((i+1)*4))) ((n-1)*4) Z=xs.take (i*4)++xs.drop ((i+1)*4)++Z++cur.toList.drop (n*4):=by
  have:=del_row (A:=xs.take (i*4)) (M:=(xs.drop (i*4)).take 4) (C:=xs.drop ((i+1)*4)) (R:=cur.toList.drop (n*4)) (Z:=Z) (by omega)
  rw [<-hcur,hA,hC] at this
  rw [show i*4+((n-1)*4-i*4)=(n-1)*4 by omega] at this
  exact this
 have hlen:(xs.take (i*4)++xs.drop ((i+1)*4)).length=(n-1)*4:=by
  rw [List.length_append]; omega
 refine ⟨_,he,⟨hlen,.inr ⟨g,cap,_,rfl,Nat.zero_le _,w2.at',by omega,hcm,?_,?_⟩⟩,⟨w2.os.trans w1.os,w2.tape.trans w1.tape,w2.output.trans w1.output,?_,fun k hk hne=>?_⟩,fun b hb=>.inl hb⟩
 ·rw [List.size_toArray,putR_len (by rw [putR_len (by omega)]; omega),putR_len (by omega)]; exact hl
 ·show (putR _ _ _).take _=_
  rw [hfin,List.append_assoc,List.take_left' hlen]
 ·rw [w2.size,w1.size]; exact Nat.le_refl _
 ·have hkg:k≠g:=fun e=>hne (by rw [e]; rfl)
  rw [w2.block k hkg,w1.block k hkg]
  rfl
def delT {α:Type} (l:List α) (i:Nat):List α:=l.take i++l.drop (i+1)
@[go_sem] def delM:MSpec:=⟨[.r 38 tupT,.d (.int .i64),.d (.int .i64)],fun d=>⟨[(0,.row 38 tupT (delT d.1 d.2.1.toNat))],1,.own 0,[0<=d.2.1/\d.2.1<(List.length d.1:Int)/\List.length d.1<=1000000/\d.2.2.1=d.2.1+(1:Int)]⟩⟩
theorem delM_ok:MSpecOk Tryz.prog 25 delM:=by
 refine mspec_of' (s:=delM) Tryz.func25 rfl (by decide) fun d hp ρ0 X w vs hX hf hm=>?_
 obtain ⟨l,i,j,u⟩:=d
 obtain ⟨⟨hp1,hp2,hp3,hp4⟩,-⟩:=hp
 change (0:Int)<=i at hp1
 obtain ⟨k,rfl⟩:=Int.eq_ofNat_of_zero_le hp1
 change List Tup at l
 change List.length l<=1000000 at hp3
 have hp4:j=((k+1:Nat):Int):=hp4
 subst hp4
 have hk:k<l.length:=by
  have:((k:Int))<(l.length:Int):=hp2
  omega
 have hf:Fr w X ρ0 0 ⟨[],[(0,.row 38 tupT l)],1⟩ ρ0 act0 w:=hf
 have c0:=hf.cs (0,.row 38 tupT l) (by exact List.mem_cons_self ..)
 obtain ⟨v0,xs,a1,a2,a3,a4⟩:=c0
 have a1:ρ0[0]?=some v0:=a1
 obtain ⟨x0,us,rfl,⟨x,hx,_,e0⟩,x1,us1,rfl,h2,x2,us2,rfl,h4,h3⟩:=hm
 have h3:us2=[]:=h3
 subst h3
 have hx:ρ0[0]?=some x:=hx
 rw [a1] at hx
 cases hx
 have e0:=(List.cons.inj e0).1
 subst e0
 obtain ⟨rfl,_⟩:=m_int h2
 obtain ⟨rfl,_⟩:=m_int h4
 have hsz0:tupT.size=4:=rfl
 rw [hsz0] at a2
 refine (delT_own (i:=k) a2 a3 hk hp3).mono fun e w' ⟨v',he,ho,hg,hl⟩=>?_
 have hbk:blkO ρ0 0=blk x0:=blkO_of a1
 have hlen:(delT l k).length=l.length-1:=by
  unfold delT
  rw [List.length_append,List.length_take,List.length_drop]; omega
 have r4:∀ (i:Nat) (x:tupT.den),l[i]?=some x->rep tupT (XX X ρ0 [(0,CT.row 38 tupT l)]) w ((xs.drop (i*tupT.size)).take tupT.size) x:=fun i x hi=>a4 i x hi
 have htk:(xs.take (k*tupT.size)).length=(l.take k).length*tupT.size:=by
  have h5:xs.length=l.length*4:=a2.1
  rw [hsz0,List.length_take,List.length_take,Nat.min_eq_left (by omega),Nat.min_eq_left (by omega)]
 have q2:=drop_app htk (take_rep r4 k) (drop_rep r4 (k+1))
 have ho':w'.ownsRow 0 38 tupT.size v' (delT l k).length (xs.take (k*tupT.size)++xs.drop ((k+1)*tupT.size)):=by rw [hlen]; exact ho
 have hone:∀ u∈xs.take (k*tupT.size)++xs.drop ((k+1)*tupT.size),u.oneCell'=true:=by
  intro u hu
  rcases List.mem_append.1 hu with hu|hu
  ·exact a3 u (List.mem_of_mem_take hu)
  ·exact a3 u (List.mem_of_mem_drop hu)
 have hv':∀ b,blk v'=some b->b<w'.heap.size/\(inC ρ0 0 b∨w.heap.size<=b):=by
  intro b hb
  refine ⟨?_,?_⟩
  ·rcases ho.2 with ⟨rfl,_⟩|⟨g,cap,cur,rfl,_,hh,_⟩
   ·cases hb
   ·cases hb; exact heap_lt hh
  ·rcases hl b hb with h|h
   ·exact .inl (inC_blk a1 h)
   ·exact .inr h
 obtain ⟨g1,g2⟩:=hf.reset (k:=0) (T:=38) (t:=tupT) (l:=l) (l':=delT l k) (v':=v') (w':=w') rfl (by rw [hbk]; exact hg) hv' ho' hone q2
 refine ⟨v',_,he,g1,v',g2,?_,rfl⟩
 obtain ⟨_,_,_,e⟩:=own_form ho
 rw [e]; rfl
end Go.Proofs.YtkdglhjocffekabGreat.Gx
