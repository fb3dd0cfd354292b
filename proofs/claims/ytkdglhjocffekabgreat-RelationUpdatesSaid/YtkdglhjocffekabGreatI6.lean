/-
  slices.DeleteFunc of a number, on an own row (the kit's contract, laid by hand).
-/
import Derived.Test.YtkdglhjocffekabGreatI5
import Derived.Shelf.SlicesE.DeleteFunc
namespace Go.Proofs.YtkdglhjocffekabGreat.Gx
open Go Go.RowKit Tw B Nt Go.Lib Go.Sort Go.Shelf
set_option linter.unusedVariables false
set_option linter.unusedSimpArgs false
def dfRen:Go.Shelf.Ren:=⟨fun|6=>63|10=>30|n=>n,fun|0=>0|3=>3|4=>4|22=>28|23=>3|25=>72|n=>n,fun|n=>n⟩
theorem dfLay:Go.Proofs.SlLaysH.n10 Tryz.prog dfRen:={
 mixed:=by kernel_rfl
 f6:=⟨Tryz.f63.name,by kernel_rfl,Tryz.func63.trans (congrArg some (by kernel_rfl))⟩
 f10:=⟨Tryz.f30.name,by kernel_rfl,Tryz.func30.trans (congrArg some (by kernel_rfl))⟩
 t0:=Tryz.underlying0
 a0:=Tryz.isAgg0
 z0:=Tryz.sizeOf0
 v0:=Tryz.zeroValue0
 t3:=Tryz.underlying3
 a3:=Tryz.isAgg3
 z3:=Tryz.sizeOf3
 v3:=Tryz.zeroValue3
 t4:=Tryz.underlying4
 a4:=Tryz.isAgg4
 z4:=Tryz.sizeOf4
 v4:=Tryz.zeroValue4
 t22:=Tryz.underlying28
 a22:=Tryz.isAgg28
 z22:=Tryz.sizeOf28
 v22:=Tryz.zeroValue28
 a23:=Tryz.isAgg3
 z23:=Tryz.sizeOf3
 t25:=Tryz.underlying72
 a25:=Tryz.isAgg72
 z25:=Tryz.sizeOf72
 v25:=Tryz.zeroValue72 }
theorem spGives (at' x:Int) (b:Nat) (W:World) (hc:W.cell? ⟨b,0,none⟩=some (.int .i64 at')) :
    FnGives Tryz.prog 32 #[.pointer (some ⟨b,0,none⟩)] #[.int .i64 x] (.bool (decide (x=at'))) W:=by
 show Calls Tryz.prog 32 #[.int .i64 x,.pointer (some ⟨b,0,none⟩)] W _
 go_enter Tryz.func32,Tryz.ntmps32
 go_wp2
 all_goals (go_ret; refine ⟨?_,0,rfl⟩; simp_all; rfl)
theorem spPred (at':Int) (b:Nat) (w:World) (hB:b<w.heap.size) (hcell:w.cell? ⟨b,0,none⟩=some (.int .i64 at')) :
    PredAt Tryz.prog 32 #[.pointer (some ⟨b,0,none⟩)] (Value.int .i64) (fun x=>decide (x=at')) w :=
 fun W x hb=>spGives at' x b W ((hb.cell (p:=⟨b,0,none⟩) hB).trans hcell)
theorem spOver (at':Int) (b blk off size:Nat) (w:World) (hB:b<w.heap.size) (hne:b≠blk) (hcell:w.cell? ⟨b,0,none⟩=some (.int .i64 at')) :
    PredOver Tryz.prog 32 #[.pointer (some ⟨b,0,none⟩)] (Value.int .i64) (fun x=>decide (x=at')) blk off size w :=
 fun n os dk x _=>spGives at' x b _ (by
  unfold sortWorld
  rw [cell?_grow _ _ _ (by show b<(putRow _ _ _ _ _).heap.size; rw [size_putRow]; exact hB),cell?_putRow_other _ _ blk off _ _ (Or.inl hne)]
  exact hcell)
theorem spDel (blk off cap:Nat) (d:Array Int) (at':Int) (b:Nat) (w:World) (hH:Holds (Value.int .i64) w blk off d) (hsz:d.size<=9223372036854775807) (hcap:d.size<=cap) (hB:b<w.heap.size) (hne:b≠blk) (hcell:w.cell? ⟨b,0,none⟩=some (.int .i64 at')) :
    Calls Tryz.prog 30 #[.slice (some ⟨blk,off,none⟩) d.size cap,.func (.func 32) #[] #[.pointer (some ⟨b,0,none⟩)]] w fun e w'=>e=.returned (.slice (some ⟨blk,off,none⟩) (d.toList.filter fun x=>!decide (x=at')).length cap) /\
     ∃ q,w'=putRow (Value.int .i64) (Sort.ahead w q) blk off ((d.toList.filter fun x=>!decide (x=at'))++List.replicate (d.size-(d.toList.filter fun x=>!decide (x=at')).length) 0).toArray:=by
 have eg:∀ args w,(callFunc 32 args).run Tryz.prog w=.ok (.enter 32 args) w:=enters_of Tryz.func32 (by kernel_rfl) rfl
 have hcon:=AnyE.slices_DeleteFunc dfLay (Value.int .i64) (fun _=>rfl) (fun x=>decide (x=at')) 32 #[.pointer (some ⟨b,0,none⟩)] eg 0 Tryz.zeroValue3 blk off cap d w (spPred at' b w hB hcell) (spOver at' b blk off d.size w hB hne hcell) hH hsz hcap
 exact hcon
@[go_sem] def dlfM:MSpec:=⟨[.r 3 (.int .i64),.c 32 3 (.int .i64)],fun d=>⟨[(1,.row 3 (.int .i64) (List.filter (fun x=>!decide (x=d.2.1)) d.1)),(0,.box 3 (dA (.int .i64) d.2.1 .nil))],2,.own 1,[List.length d.1<=1000000]⟩⟩
theorem ints_of {X:Nat->Prop} {w:World} {l:List Int} {xs:List Value} (hl:xs.length=l.length) (h:∀ (i:Nat) (x:Int),l[i]?=some x->rep (.int .i64) X w ((xs.drop (i*1)).take 1) x):xs=l.map (Value.int .i64):=by
 apply List.ext_getElem?
 intro i
 rcases Nat.lt_or_ge i l.length with hi|hi
 ·have h1:=(h i _ (List.getElem?_eq_getElem hi)).1
  rw [List.getElem?_map,List.getElem?_eq_getElem hi]
  have h2:((xs.drop (i*1)).take 1)[0]?=some (Value.int .i64 l[i]):=by rw [h1]; rfl
  rw [List.getElem?_take,if_pos (by decide),List.getElem?_drop,Nat.mul_one,Nat.add_zero] at h2
  exact h2
 ·rw [List.getElem?_eq_none (by omega),List.getElem?_eq_none (by rw [List.length_map]; omega)]
theorem spNil (fv:Value) (w:World):Calls Tryz.prog 30 #[.slice none 0 0,fv] w fun e w'=>e=.returned (.slice none 0 0)/\w'=w:=by
 have hI:∀ w,Calls Tryz.prog 63 #[.slice none 0 0,fv] w fun e w'=>e=.returned (.int .i64 (-1))/\w'=w:=fun w=>AnyE.slices_IndexFunc_empty (P:=Tryz.prog) (ρ:=dfRen) { dfLay with } none 0 fv w
 go_enter Tryz.func30,Tryz.ntmps30
 go_wp2_with (go_at_call 63; refine (hI _).mono ?_; rintro e w' ⟨rfl,rfl⟩)
 all_goals (go_ret; exact ⟨rfl,rfl⟩)
theorem putC_take {l m:List Int} {cur:Array Value} (h:m.length<=l.length) (hc:l.length<=cur.size):(putCells (Value.int .i64) 0 (m++List.replicate (l.length-m.length) 0).toArray cur).toList.take m.length=m.map (Value.int .i64):=by
 apply List.ext_getElem?
 intro i
 rcases Nat.lt_or_ge i m.length with hi|hi
 ·have h1:i<0+(m++List.replicate (l.length-m.length) 0).toArray.size:=by simp; omega
  have h2:(m++List.replicate (l.length-m.length) 0).toArray[i]! = m[i]:=by
   rw [getElem!_pos _ i (by simp; omega)]
   simp [List.getElem_append_left hi]
  rw [List.getElem?_take,if_pos hi,List.getElem?_map,List.getElem?_eq_getElem hi]
  unfold putCells
  rw [Array.getElem?_toList,Array.getElem?_mapIdx,Array.getElem?_eq_getElem (by omega),Option.map_some,if_pos ⟨Nat.zero_le _,h1⟩,Nat.sub_zero,h2]
  rfl
 ·rw [List.getElem?_eq_none (by rw [List.length_take]; omega),List.getElem?_eq_none (by rw [List.length_map]; omega)]
theorem dlfM_ok:MSpecOk Tryz.prog 30 dlfM:=by
 refine mspec_of' (s:=dlfM) Tryz.func30 rfl (by decide) fun d hp ρ0 X w vs hX hf hm=>?_
 obtain ⟨l,a,u⟩:=d
 obtain ⟨hp1,-⟩:=hp
 change List Int at l
 change Int at a
 change List.length l<=1000000 at hp1
 have hf:Fr w X ρ0 0 ⟨[],[(1,.row 3 (.int .i64) l),(0,.box 3 (dA (.int .i64) a .nil))],2⟩ ρ0 act0 w:=hf
 have c0:=hf.cs (1,.row 3 (.int .i64) l) (by exact List.mem_cons_self ..)
 have c1:=hf.cs (0,.box 3 (dA (.int .i64) a .nil)) (by exact List.mem_cons_of_mem _ (List.mem_cons_self ..))
 have hdj:=hf.dj (1,.row 3 (.int .i64) l) (by exact List.mem_cons_self ..) (0,.box 3 (dA (.int .i64) a .nil)) (by exact List.mem_cons_of_mem _ (List.mem_cons_self ..)) (by show (1:Nat)≠0; decide)
 obtain ⟨v0,xs,a1,a2,a3,a4⟩:=c0
 obtain ⟨_,b,bs,b1,b2,b3,b4⟩:=c1
 have a1:ρ0[1]?=some v0:=a1
 have b1:ρ0[0]?=some (.pointer (some ⟨b,0,none⟩)):=b1
 obtain ⟨x0,us,rfl,⟨x,hx,_,e0⟩,x1,us1,rfl,⟨ps,e1,y,qs,rfl,⟨y0,b',hy,hb',e2⟩,h3⟩,h4⟩:=hm
 have h3:qs=[]:=h3
 have h4:us1=[]:=h4
 subst h3
 subst h4
 have hx:ρ0[1]?=some x:=hx
 rw [a1] at hx
 cases hx
 have hy:ρ0[0]?=some y0:=hy
 rw [b1] at hy
 cases hy
 cases hb'
 have e0:=(List.cons.inj e0).1
 have e1:=(List.cons.inj e1).1
 have e2:=(List.cons.inj e2).1
 subst e0
 subst e1
 subst e2
 obtain ⟨z,zs,hz,⟨cz,hcz,e5⟩,hzs⟩:=b3
 have hzs:zs=[]:=hzs
 have hxl:xs.length=l.length:=by have:=a2.1; rw [this]; exact Nat.mul_one _
 have hxs:xs=l.map (Value.int .i64):=ints_of hxl a4
 have hz1:bs.toList=[Value.int .i64 a]:=by
  rw [hz,hzs]
  have h5:=(List.cons.inj e5).1
  rw [hcz.1] at h5
  rw [h5]; rfl
 have hbs:bs=#[Value.int .i64 a]:=by
  rw [<-Array.toList_inj,hz1]
 have hcell:w.cell? ⟨b,0,none⟩=some (.int .i64 a):=by
  have:w.heap[b]?=some (.cells [Value.int .i64 a].toArray 3 (0,0)):=by rw [b2,hbs]
  rw [cellI this]; rfl
 have hB:b<w.heap.size:=heap_lt b2
 have hbk:blkO ρ0 1=blk x0:=blkO_of a1
 have key:∀ (v':Value) (w':World),w'.ownsRow 0 3 1 v' (l.filter fun x=>!decide (x=a)).length ((l.filter fun x=>!decide (x=a)).map (Value.int .i64))->w.grownBy w' (blk x0)->(∀ b,blk v'=some b->blk x0=some b∨w.heap.size<=b) ->
     ∃ ρ',Fr w X ρ0 0 ⟨[],(dlfM.F (l,a,u)).ck,(dlfM.F (l,a,u)).nx⟩ ρ' act0 w'/\m ρ' (XX X ρ' (dlfM.F (l,a,u)).ck) w' (dlfM.F (l,a,u)).out [v']:=by
  intro v' w' ho hg hl
  have hv':∀ b,blk v'=some b->b<w'.heap.size/\(inC ρ0 1 b∨w.heap.size<=b):=by
   intro b hb
   refine ⟨?_,?_⟩
   ·rcases ho.2 with ⟨rfl,_⟩|⟨g,cap,cur,rfl,_,hh,_⟩
    ·cases hb
    ·cases hb; exact heap_lt hh
   ·rcases hl b hb with h|h
    ·exact .inl (inC_blk a1 h)
    ·exact .inr h
  have hone:∀ u∈(l.filter fun x=>!decide (x=a)).map (Value.int .i64),u.oneCell'=true:=by
   intro u hu
   obtain ⟨x,_,rfl⟩:=List.mem_map.1 hu
   rfl
  have hrr:∀ (i:Nat) (x:Int),(l.filter fun x=>!decide (x=a))[i]?=some x->rep (.int .i64) (XX X ρ0 [(1,CT.row 3 (.int .i64) l),(0,CT.box 3 (dA (.int .i64) a .nil))]) w ((((l.filter fun x=>!decide (x=a)).map (Value.int .i64)).drop (i*1)).take 1) x:=by
   intro i x hi
   have hm:x∈l:=(List.mem_filter.1 (List.mem_of_getElem? hi)).1
   obtain ⟨j,hj,e⟩:=List.mem_iff_getElem.1 hm
   have hr:=(a4 j x (by rw [List.getElem?_eq_getElem hj,e])).2
   refine ⟨?_,hr⟩
   rw [Nat.mul_one]
   have h6:((l.filter fun x=>!decide (x=a)).map (Value.int .i64))[i]?=some (Value.int .i64 x):=by rw [List.getElem?_map,hi]; rfl
   rw [List.take_one,List.head?_drop,h6]; rfl
  obtain ⟨g1,g2⟩:=hf.reset (k:=1) (T:=3) (t:=.int .i64) (l:=l) (l':=l.filter fun x=>!decide (x=a)) (v':=v') (w':=w') rfl (by rw [hbk]; exact hg) hv' ho hone hrr
  refine ⟨_,g1,v',g2,?_,rfl⟩
  obtain ⟨_,_,_,e⟩:=own_form ho
  rw [e]; rfl
 rcases a2.2 with ⟨rfl,h7⟩|⟨g,cap,cur,rfl,_,hg,hnc,hcm,hcs,hx⟩
 ·have hl0:l=[]:=List.eq_nil_of_length_eq_zero h7
  subst hl0
  refine (spNil _ w).mono fun e w' ⟨he,hw⟩=>?_
  subst hw
  obtain ⟨ρ',k1,k2⟩:=key (.slice none 0 0) w' ⟨rfl,.inl ⟨rfl,rfl⟩⟩ ⟨rfl,rfl,rfl,Nat.le_refl _,fun _ _ _=>rfl⟩ (fun b hb=>by cases hb)
  exact ⟨_,ρ',he,k1,k2⟩
 ·have hne:b≠g:=fun e=>hdj b (by rw [e]; exact inC_blk a1 rfl) (inC_blk b1 rfl)
  have hcl:cur.size=cap*1:=hcs
  have hxc:∀ j v,xs[j]?=some v->w.cell? ⟨g,0+j,none⟩=some v:=fun j v hj=>by
   have:=a2.cells (g:=g) rfl j v hj
   rwa [Addr.add_lit] at this
  have hfz:∀ j,w.frozen? ⟨g,j,none⟩=false:=fun j=>frozenI (cur:=cur.toList) (T:=3) (by rw [hg])
  have hH:Holds (Value.int .i64) w g 0 l.toArray:=fun j hj=>by
   have hj:j<l.length:=by simpa using hj
   refine ⟨hxc j _ ?_,hfz _⟩
   rw [hxs,List.getElem?_map,List.getElem?_eq_getElem hj,getElem!_pos l.toArray j (by simpa using hj)]
   rfl
  have hsp:=spDel g 0 cap l.toArray a b w hH (by simp; omega) (by simpa using hnc) hB hne hcell
  rw [List.size_toArray,List.toList_toArray] at hsp
  refine hsp.mono fun e w' ⟨he,q,hw⟩=>?_
  have hfl:(l.filter fun x=>!decide (x=a)).length<=l.length:=List.length_filter_le _ _
  have hh:w'.heap[g]?=some (.cells (putCells (Value.int .i64) 0 ((l.filter fun x=>!decide (x=a))++List.replicate (l.length-(l.filter fun x=>!decide (x=a)).length) 0).toArray cur) 3 (0,0)):=by
   have h8:(Sort.ahead w q).heap[g]?=some (.cells cur 3 (0,0)):=hg
   rw [hw]
   show ((Sort.ahead w q).heap.modify g _)[g]?=_
   rw [Array.getElem?_modify,if_pos rfl,h8]
   rfl
  obtain ⟨ρ',k1,k2⟩:=key (.slice (some ⟨g,0,none⟩) (l.filter fun x=>!decide (x=a)).length cap) w' ⟨by rw [List.length_map,Nat.mul_one],.inr ⟨g,cap,_,rfl,Nat.zero_le _,hh,by omega,hcm,by rw [<-hcl]; simp [putCells],by rw [Nat.mul_one]; exact putC_take hfl (by omega)⟩⟩ ⟨by rw [hw]; rfl,by rw [hw]; rfl,by rw [hw]; rfl,by rw [hw,size_putRow]; exact Nat.le_refl _,fun k hk hne=>by
      have hkg:k≠g:=fun e=>hne (by rw [e]; rfl)
      rw [hw]
      simp [putRow,mapBlock,Array.getElem?_modify,Ne.symm hkg]⟩ (fun b hb=>.inl hb)
  exact ⟨_,ρ',he,k1,k2⟩
end Go.Proofs.YtkdglhjocffekabGreat.Gx
