/-
  MHb: HP H6 H7 H8 in one text.
-/
import Derived.Test.YtdobkkhncfifeabGreatMHa
import Derived.Shelf.Spec.SlicesGrow
namespace Go.Proofs.YtdobkkhncfifeabGreat.Gx
open Go Go.RowKit Tw B Nt
set_option linter.unusedVariables false
def par (p:List Int) (i:Int):Int:=p.getD i.toNat 0
inductive Rt (p:List Int):Int->Int->Prop
 | fix {i:Int}:par p i=i->Rt p i i
 | step {i r:Int}:par p i≠i->Rt p (par p i) r->Rt p i r
theorem Rt.det {p:List Int} {i r s:Int} (h:Rt p i r) (h':Rt p i s):r=s:=by
 induction h with
 | fix e=>cases h' with
  | fix _=>rfl
  | step e' _=>exact absurd e e'
 | step e _ ih=>cases h' with
  | fix e'=>exact absurd e' e
  | step _ h2=>exact ih h2
theorem Rt.inv {p:List Int} {i r:Int} (h:Rt p i r) (e:par p i≠i):Rt p (par p i) r:=by
 cases h with
 | fix e'=>exact absurd e' e
 | step _ h=>exact h
theorem par_bound {p:List Int} (hw:wfP p) {i:Int} (h0:0<=i) (h1:i<(p.length:Int)):0<=par p i/\par p i<=i:=by
 have:=hw i.toNat (by omega)
 unfold par
 omega
theorem Rt.ex {p:List Int} (hw:wfP p):∀ (n:Nat) (i:Int),0<=i->i<(p.length:Int)->i.toNat<n->∃ r,Rt p i r/\0<=r/\r<=i
 | 0,_,_,_,h=>absurd h (Nat.not_lt_zero _)
 | n+1,i,h0,h1,h2=>by
  obtain ⟨a,b⟩:=par_bound hw h0 h1
  by_cases e:par p i=i
  ·exact ⟨i,.fix e,h0,Int.le_refl _⟩
  ·obtain ⟨r,q1,q2,q3⟩:=Rt.ex hw n (par p i) a (by omega) (by omega)
   exact ⟨r,.step e q1,q2,by omega⟩
theorem par_set {p:List Int} {i j b:Int} (h0:0<=i) (h1:i<(p.length:Int)) (g0:0<=j):par (p.set i.toNat b) j=if j=i then b else par p j:=by
 unfold par
 rw [getD_set' (by omega)]
 by_cases e:j=i
 ·rw [if_pos e,if_pos (by rw [e])]
 ·rw [if_neg e,if_neg (by omega)]
theorem Rt.halve {p:List Int} (hw:wfP p) {i:Int} (h0:0<=i) (h1:i<(p.length:Int)) (hne:par p i≠i) {j r:Int} (g0:0<=j) (g1:j<(p.length:Int)) (h:Rt p j r) :
    Rt (p.set i.toNat (par p (par p i))) j r:=by
 obtain ⟨a1,a2⟩:=par_bound hw h0 h1
 obtain ⟨b1,b2⟩:=par_bound hw a1 (by omega)
 induction h with
 | fix e =>
  rename_i j
  have hji:j≠i:=fun h=>hne (by rw [<-h]; exact e)
  refine .fix ?_
  rw [par_set h0 h1 g0,if_neg hji]; exact e
 | step e hs ih =>
  rename_i j r
  obtain ⟨c1,c2⟩:=par_bound hw g0 g1
  have ih:=ih c1 (by omega)
  by_cases hji:j=i
  ·subst hji
   have hpa:par (p.set j.toNat (par p (par p j))) (par p j)=par p (par p j):=by rw [par_set h0 h1 a1,if_neg hne]
   have hpi:par (p.set j.toNat (par p (par p j))) j=par p (par p j):=by rw [par_set h0 h1 h0,if_pos rfl]
   refine .step (by rw [hpi]; omega) ?_
   rw [hpi]
   by_cases e2:par p (par p j)=par p j
   ·rw [e2]; rw [e2] at ih; exact ih
   ·have:=ih.inv (by rw [hpa]; exact e2)
    rw [hpa] at this
    exact this
  ·have hpj:par (p.set i.toNat (par p (par p i))) j=par p j:=by rw [par_set h0 h1 g0,if_neg hji]
   exact .step (by rw [hpj]; exact e) (by rw [hpj]; exact ih)
theorem fnd_root:∀ (n:Nat) (p:List Int) (i:Int),wfP p->0<=i->i<(p.length:Int)->i.toNat<n ->
    Rt p i (fnd n p i).2/\∀ j r,0<=j->j<(p.length:Int)->Rt p j r->Rt (fnd n p i).1 j r
 | 0,_,_,_,_,_,h=>absurd h (Nat.not_lt_zero _)
 | n+1,p,i,hw,h0,h1,h2=>by
  unfold fnd
  by_cases e:p.getD i.toNat 0=i
  ·rw [if_pos e]
   exact ⟨.fix e,fun j r _ _ h=>h⟩
  ·rw [if_neg e]
   obtain ⟨s1,s2,s3,s4⟩:=stepP hw h0 h1 e
   obtain ⟨r1,r2⟩:=fnd_root n (p.set i.toNat (p.getD (p.getD i.toNat 0).toNat 0)) (p.getD (p.getD i.toNat 0).toNat 0) (wfP_set hw (by omega) s3 (by omega)) s3 (by rw [List.length_set]; omega) (by omega)
   have hv:∀ j r,0<=j->j<(p.length:Int)->Rt p j r->Rt (p.set i.toNat (p.getD (p.getD i.toNat 0).toNat 0)) j r:=fun j r g0 g1 h=>h.halve hw h0 h1 e g0 g1
   refine ⟨?_,fun j r g0 g1 h=>r2 j r g0 (by rw [List.length_set]; exact g1) (hv j r g0 g1 h)⟩
   obtain ⟨x,q1,_,_⟩:=Rt.ex hw _ i h0 h1 (Nat.lt_succ_self _)
   have hx:=hv i x h0 h1 q1
   have hpi:par (p.set i.toNat (p.getD (p.getD i.toNat 0).toNat 0)) i=p.getD (p.getD i.toNat 0).toNat 0:=by rw [par_set h0 h1 h0,if_pos rfl]
   have hy:=hx.inv (by rw [hpi]; omega)
   rw [hpi] at hy
   rw [<-hy.det r1]
   exact q1
theorem find_root {p:List Int} {i:Int} (hw:wfP p) (h0:0<=i) (h1:i<(p.length:Int)) :
    Rt p i (find p i).2/\∀ j r,0<=j->j<(p.length:Int)->Rt p j r->Rt (find p i).1 j r:=fnd_root _ p i hw h0 h1 (Nat.lt_succ_self _)
theorem find_find {p:List Int} {i:Int} (hw:wfP p) (h0:0<=i) (h1:i<(p.length:Int)):(find (find p i).1 i).2=(find p i).2:=by
 obtain ⟨r1,r2⟩:=find_root hw h0 h1
 obtain ⟨q1,q2,_⟩:=find_spec hw h0 h1
 obtain ⟨s1,_⟩:=find_root (p:=(find p i).1) q1 h0 (by rw [q2]; exact h1)
 exact s1.det (r2 i _ h0 h1 r1)
end Go.Proofs.YtdobkkhncfifeabGreat.Gx
namespace Go.Proofs.YtdobkkhncfifeabGreat.Gx
open Go Go.RowKit Go.Shelf Tw B Nt
set_option linter.unusedVariables false
set_option linter.unusedSimpArgs false
set_option maxHeartbeats 4000000
set_option maxRecDepth 20000
def growR:Ren:=⟨fun k=>match k with|4=>56|k=>k,fun k=>match k with|0=>0|3=>3|4=>4|9=>9|20=>20|22=>22|25=>3|k=>k,fun k=>k⟩
theorem growL:Lays8.n4 Tryz.prog growR where
 mixed:=E3_ok.mx
 f4:=⟨"slices.Grow[[]int,int]",by decide,rfl⟩
 t0:=rfl
 a0:=fun w=>rfl
 z0:=fun w=>rfl
 v0:=fun w=>rfl
 t3:=rfl
 a3:=fun w=>rfl
 z3:=fun w=>rfl
 v3:=fun w=>rfl
 t4:=rfl
 a4:=fun w=>rfl
 z4:=fun w=>rfl
 v4:=fun w=>rfl
 t9:=rfl
 a9:=fun w=>rfl
 z9:=fun w=>rfl
 v9:=fun w=>rfl
 t20:=rfl
 a20:=fun w=>rfl
 z20:=fun w=>rfl
 v20:=fun w=>rfl
 t22:=rfl
 a22:=fun w=>rfl
 z22:=fun w=>rfl
 v22:=fun w=>rfl
@[go_sem] def groM:MSpec:=⟨[.n,.d (.int .i64)],fun d=>⟨[(0,.row 3 (.int .i64) [])],1,.own 0,[0<=d.1/\d.1<=4000000000]⟩⟩
theorem groM_ok:MSpecOk Tryz.prog 56 groM:=by
 refine mspec_of' (s:=groM) Tryz.func56 rfl (by decide) fun d hp ρ0 X w vs hX hf hm=>?_
 obtain ⟨n,du⟩:=d
 obtain ⟨⟨hp1,hp2⟩,-⟩:=hp
 change (0:Int)<=n at hp1
 change n<=(4000000000:Int) at hp2
 obtain ⟨v0,us,rfl,h1,v1,us1,rfl,h2,h3⟩:=hm
 have h3:us1=[]:=h3
 subst h3
 have hρ:=nil_ρ' hf
 subst hρ
 have h1:=(List.cons.inj h1).1
 subst h1
 obtain ⟨rfl,_⟩:=m_int h2
 obtain ⟨k,rfl⟩:=Int.eq_ofNat_of_zero_le hp1
 have hp2:(k:Int)<=4000000000:=hp2
 rcases Nat.eq_zero_or_pos k with rfl|hk
 ·refine (Any8.slices_Grow_room growL none 0 0 0 w (Nat.le_refl _) (by omega) (by omega) (by omega)).mono fun e w' ⟨he,hw⟩=>?_
  subst hw
  refine ⟨_,[.slice none 0 0],he,fr_row0 hX (Below.refl _ _) ⟨rfl,.inl ⟨rfl,rfl⟩⟩,_,rfl,rfl,rfl⟩
 ·obtain ⟨inf,hinf,hiz,his,hib⟩:=(E3_ok.fact (T:=3) (e:=⟨.int .i64,0,8,0⟩) rfl).info
  have hz:inf.zero=some (.int .i64 0):=hiz
  have hs:inf.size=1:=his
  have hb:inf.bytes=8:=hib
  refine (Any8.slices_Grow_grow growL inf (.int .i64 0) hinf hz (by rw [hs]; exact Nat.zero_lt_one) none 0 0 k [] w (Nat.le_refl _) (by omega) (by rw [hb]; omega) (by omega) (by simp) (fun _=>rfl) (fun a h=>by cases h)).mono fun e w' ⟨he,hw⟩=>?_
  have hge:=grownCap_ge w (0+k) 0 3
  have hle:=grownCap_le_maxLen w (0+k) 0 3 (by unfold maxLen; omega)
  have he:e=.returned (.slice (some ⟨w.heap.size,0,none⟩) 0 (grownCap w (0+k) 0 3)):=he
  have hw:w'=w.drew.alloc (.cells (#[]++Builtin.zeroCells (Value.int .i64 0).cells (0+k-0)++Builtin.zeroCells (Value.int .i64 0).cells (grownCap w (0+k) 0 3-(0+k))) 3):=hw
  generalize grownCap w (0+k) 0 3=G at hge hle he hw
  have hzs:∀ n,(Builtin.zeroCells (Value.int .i64 0).cells n).size=n:=fun n=>by
   have:=congrArg List.length (zero_rep (n:=n) (x:=.int .i64 0) (z:=.int .i64 0) rfl)
   simpa using this
  have hbw:Below w.heap.size w w':=by rw [hw]; exact (Below.refl _ _).drew.alloc (Nat.le_refl _) _
  have hh:w'.heap[w.heap.size]?=some (.cells (#[]++Builtin.zeroCells (Value.int .i64 0).cells (0+k-0)++Builtin.zeroCells (Value.int .i64 0).cells (G-(0+k))) 3 (0,0)):=by
   rw [hw]; exact Array.getElem?_push_size (xs:=w.heap)
  refine ⟨_,[.slice (some ⟨w.heap.size,0,none⟩) 0 G],he,fr_row0 hX hbw ⟨rfl,.inr ⟨w.heap.size,G,_,rfl,Nat.le_refl _,hh,Nat.zero_le _,hle,?_,rfl⟩⟩,_,rfl,rfl,rfl⟩
  rw [Array.size_append,Array.size_append,hzs,hzs]
  simp [Ty.size]
  omega
@[go_sem] noncomputable def EH10:Env:=((EH9).addM 39 conM).addM 56 groM
theorem EH10_ok:EH10.Ok:=((EH9_ok).addM conM_ok).addM groM_ok
theorem flen {l:List (List Int)} {n i:Nat} (h:l.flatten.length<=n):(l.take i).flatten.length<=n:=by
 have:(l.take i).flatten.length<=l.flatten.length:=by
  rw [<-List.take_append_drop i l,List.flatten_append,List.length_append]
  simp
 omega
theorem fsnoc {l:List (List Int)} {i:Nat} (h:i<l.length):(l.take (i+1)).flatten=(l.take i).flatten++l.getD i []:=by
 rw [take_snoc [] h,List.flatten_append]
 simp
@[go_sem] def concS:Spec:=⟨[.slice (.slice (.int .i64))],fun d=>(.dat (.slice (.int .i64)) (List.flatten d.1),[List.length d.1<=1000000,(List.flatten d.1).length<=2000000])⟩
theorem conc_ok:SpecOk Tryz.prog 40 concS:=by
 refine fn_ok EH10_ok concS Tryz.func40 rfl (by decide) (N:=36) rfl (res:=[.tmp 2]) rfl (by decide) [(9,[(24,.ow)])] [(15,[0])] [] 100 (by kernel_rfl) ?_
 rintro ⟨l,_⟩ hw hp
 refine ⟨rfl,fun H hH=>?_⟩
 dsimp only [go_sem] at hw hp ⊢
 obtain ⟨hp1,hp2,-⟩:=hp
 change List (List Int) at l
 change l.length<=1000000 at hp1
 change l.flatten.length<=2000000 at hp2
 clear hw
 refine hH.loop (fun i:Nat=>⟨[(11,.dat (.int .i64) (i:Int)),(10,.dat (.int .i64) (List.length l:Int)),(9,.dat (.slice (.slice (.int .i64))) l),(0,.dat (.slice (.slice (.int .i64))) l),(3,.dat (.int .i64) ((l.take i).flatten.length:Int))],[],0⟩) (fun i=>i<=l.length) (fun i=>l.length-i) 0 0 (Nat.zero_le _) ?_ ?_
 ·dsimp only [go_sem]
  and_intros<;>first|trivial|rfl|omega
 ·intro i hi R hm
  refine hH.run 100 _ _ ?_
  dsimp only [go_sem]
  simp only [Int.toNat_natCast]
  refine ⟨fun d=>?_,fun d=>?_⟩<;>simp only [decide_eq_true_eq,decide_eq_false_iff_not] at d
  ·have d:i<l.length:=by omega
   have hs:=fsnoc d
   have hl:=flen (i:=i+1) hp2
   have hl':((l.take i).flatten.length:Int)+((l.getD i []).length:Int)=((l.take (i+1)).flatten.length:Int):=by rw [hs,List.length_append]; omega
   have hg:l.getD i (zd (.slice (.int .i64)))=l.getD i []:=rfl
   simp only [hg]
   have hi1:inR .i64 ((i:Int)+1):=by rw [inR_i64]; omega
   have hnn:¬((l.take i).flatten.length:Int)+((l.getD i []).length:Int)<0:=by omega
   refine ⟨⟨Int.natCast_nonneg _,Int.ofNat_lt.2 d⟩,by rw [inR_i64,hl']; omega,fun e=>absurd (of_decide_eq_true e) hnn,fun _=>⟨hi1,hm _ (i+1) 0 d (by omega) ?_⟩⟩
   dsimp only [go_sem]
   and_intros<;>first|trivial|rfl|omega|exact hl'
  ·have d:i=l.length:=by omega
   subst d
   rw [List.take_length]
   clear hm
   refine ⟨⟨Int.natCast_nonneg _,by change (l.flatten.length:Int)<=_; omega⟩,?_⟩
   refine HOk.loop (by assumption) (fun i:Nat=>⟨[(27,.dat (.int .i64) (i:Int)),(26,.dat (.int .i64) (List.length l:Int)),(25,.dat (.slice (.slice (.int .i64))) l),(6,.own 0)],[(0,.row 3 (.int .i64) (l.take i).flatten)],1⟩) (fun i=>i<=l.length) (fun i=>l.length-i) 0 1 (Nat.zero_le _) ?_ ?_
   ·dsimp only [go_sem]
    and_intros<;>first|trivial|rfl|omega
   ·intro i hi R hm
    refine hH.run 100 _ _ ?_
    dsimp only [go_sem]
    simp only [Int.toNat_natCast]
    refine ⟨fun d=>?_,fun d=>?_⟩<;>simp only [decide_eq_true_eq,decide_eq_false_iff_not] at d
    ·have d:i<l.length:=by omega
     have hs:=fsnoc d
     have hl:=flen (i:=i+1) hp2
     have hg:l.getD i (zd (.slice (.int .i64)))=l.getD i []:=rfl
     have hi1:inR .i64 ((i:Int)+1):=by rw [inR_i64]; omega
     have hcap:((l.take i).flatten.length+(l.getD i []).length)*8<=140737488355328:=by
      rw [hs,List.length_append] at hl; omega
     rw [hg]
     refine ⟨⟨Int.natCast_nonneg _,Int.ofNat_lt.2 d⟩,hcap,trivial,hi1,hm _ (i+1) 1 d (by omega) ?_⟩
     dsimp only [go_sem]
     rw [hs]
     and_intros<;>first|trivial|rfl|omega
    ·have d:i=l.length:=by omega
     subst d
     rw [List.take_length]
     and_intros<;>first|trivial|rfl
def emp (l:List Int):Bool:=decide ((l.length:Int)=0)
@[go_sem] def empM:MSpec:=⟨[.d (.slice (.int .i64))],fun d=>⟨[],0,.dat .bool (emp d.1),[]⟩⟩
theorem empM_ok:MSpecOk Tryz.prog 42 empM:=by
 refine fnM_ok E3_ok empM Tryz.func42 rfl (by decide) (N:=6) rfl (res:=[.tmp 2]) rfl (by decide) [] [] [] 100 (by kernel_rfl) ?_
 rintro ⟨l,_⟩ hw hp H hH
 dsimp only [go_sem] at hw hp ⊢
 and_intros<;>first|trivial|rfl
@[go_sem] noncomputable def EH11:Env:=((EH10).add 40 concS).addM 42 empM
theorem EH11_ok:EH11.Ok:=((EH10_ok).add conc_ok).addM empM_ok
@[go_sem] def ixlM:MSpec:=⟨[.d (.slice (.slice (.int .i64))),.k 42],fun d=>⟨[],0,.dat (.int .i64) (idx emp d.1),[List.length d.1<=1000]⟩⟩
theorem ixlM_ok:MSpecOk Tryz.prog 57 ixlM:=by
 refine fnM_ok EH11_ok ixlM Tryz.func57 rfl (by decide) (N:=19) rfl (res:=[.tmp 4]) rfl (by decide) [] [] [] 100 (by kernel_rfl) ?_
 rintro ⟨l,_⟩ hw hp H hH
 dsimp only [go_sem] at hw hp ⊢
 obtain ⟨hp,-⟩:=hp
 change List (List Int) at l
 change List.length l<=1000 at hp
 refine hH.loop (fun i:Nat=>⟨[(8,.dat (.int .i64) (i:Int)),(7,.dat (.int .i64) (List.length l:Int)),(0,.dat (.slice (.slice (.int .i64))) l),(1,.clo 42 .nil)],[],0⟩) (fun i=>i<=l.length/\(l.take i).any emp=false) (fun i=>l.length-i) 0 0 ⟨Nat.zero_le _,rfl⟩ ?_ ?_
 ·dsimp only [go_sem]
  simp
 ·rintro i ⟨hi,ha⟩ R hm
  refine hH.run 100 _ _ ?_
  dsimp only [go_sem]
  refine ⟨fun d=>?_,fun d=>?_⟩<;>simp only [decide_eq_true_eq,decide_eq_false_iff_not] at d
  ·have d:i<l.length:=by omega
   rw [Int.toNat_natCast]
   refine ⟨⟨Int.natCast_nonneg _,Int.ofNat_lt.2 d⟩,fun e=>?_,fun e=>⟨by rw [inR_i64]; omega,?_⟩⟩
   ·simp [idx_at _ d e ha]
   ·refine hm _ (i+1) 0 ⟨d,?_⟩ (by omega) ?_
    ·rw [any_snoc _ d,ha,e]; rfl
    ·dsimp only [go_sem]
     simp
  ·have d:i=l.length:=by omega
   rw [d,List.take_length] at ha
   simp [idx_none ha]
def kept (l:List (List Int)):List (List Int):=l.filter fun x=>!emp x
@[go_sem] noncomputable def EH12:Env:=(EH11).addM 57 ixlM
theorem EH12_ok:EH12.Ok:=(EH11_ok).addM ixlM_ok
@[go_sem] def dlM:MSpec:=⟨[.r 22 (.slice (.int .i64)),.k 42],fun d=>⟨[],1,.dat (.slice (.slice (.int .i64))) (kept d.1),[List.length d.1<=1000]⟩⟩
theorem dlM_ok:MSpecOk Tryz.prog 41 dlM:=by
 refine fnM_ok EH12_ok dlM Tryz.func41 rfl (by decide) (N:=42) rfl (res:=[.tmp 4]) rfl (by decide) [] [(3,[0]),(12,[0])] [] 100 (by kernel_rfl) ?_
 rintro ⟨l,_⟩ hw hp H hH
 dsimp only [go_sem] at hw hp ⊢
 obtain ⟨hp,-⟩:=hp
 change List (List Int) at l
 change List.length l<=1000 at hp
 clear hw
 have hcase:(idx emp l = -1/\kept l=l)∨∃ i:Nat,i<l.length/\idx emp l=(i:Int)/\kept (l.take (i+1))=l.take i:=by
  cases e:l.findIdx? emp with
  | none =>
   rw [List.findIdx?_eq_none_iff] at e
   refine .inl ⟨idx_none (by rw [List.any_eq_false]; intro x hx; rw [e x hx]; decide),?_⟩
   unfold kept
   rw [List.filter_eq_self]
   intro x hx
   rw [e x hx]; rfl
  | some i =>
   have hx:idx emp l=(i:Int):=by unfold idx; rw [e]
   rw [List.findIdx?_eq_some_iff_getElem] at e
   obtain ⟨hi,h1,h2⟩:=e
   refine .inr ⟨i,hi,hx,?_⟩
   unfold kept
   rw [take_snoc [] hi,List.filter_append]
   have e1:(l.take i).filter (fun x=>!emp x)=l.take i:=by
    rw [List.filter_eq_self]
    intro x hx
    obtain ⟨j,hj,rfl⟩:=List.mem_take_iff_getElem.1 hx
    have:=h2 j (by omega)
    simp only [Bool.not_eq_true] at this
    rw [this]; rfl
   have e2:([l.getD i []]).filter (fun x=>!emp x)=[]:=by
    rw [List.getD_eq_getElem?_getD,List.getElem?_eq_getElem hi]
    simp [h1]
   rw [e1,e2,List.append_nil]
 rcases hcase with ⟨h1,h2⟩|⟨i0,h0,h1,h2⟩
 ·refine ⟨hp,fun _=>?_,fun e=>absurd h1 (of_decide_eq_false e)⟩
  and_intros<;>first|trivial|rfl|omega|exact h2.symm
 ·have h4:inR .i64 (idx emp l+1):=by rw [inR_i64,h1]; omega
  refine ⟨hp,fun e=>absurd (of_decide_eq_true e) (by rw [h1]; omega),fun _=>⟨h4,?_⟩⟩
  rw [h1]
  refine hH.loop (fun x:Nat×Nat×List (List Int)=>⟨[(6,.dat (.int .i64) (x.2.1:Int)),(5,.dat (.int .i64) (x.1:Int)),(0,.own 0),(1,.clo 42 .nil)],[(0,.row 22 (.slice (.int .i64)) x.2.2)],1⟩) (fun x=>x.1<x.2.1/\x.2.1<=l.length/\x.2.2.length=l.length/\x.2.2.take x.1=kept (l.take x.2.1)/\x.2.2.drop x.2.1=l.drop x.2.1) (fun x=>l.length-x.2.1) (i0,i0+1,l) 1 ⟨Nat.lt_succ_self _,h0,rfl,h2.symm,rfl⟩ ?_ ?_
  ·dsimp only [go_sem]
   and_intros<;>first|trivial|rfl|omega
  ·rintro ⟨i,j,r⟩ ⟨q1,q2,q3,q4,q5⟩ R hm
   dsimp only at q1 q2 q3 q4 q5
   refine hH.run 100 _ _ ?_
   dsimp only [go_sem]
   simp only [Int.toNat_natCast]
   have hz:∀ k,r.getD k (zd (.slice (.int .i64)))=r.getD k []:=fun _=>rfl
   refine ⟨fun d=>?_,fun d=>?_⟩<;>simp only [decide_eq_true_eq,decide_eq_false_iff_not] at d
   ·have d:j<l.length:=by omega
    have hb:(0:Int)<=(j:Int)/\(j:Int)<(r.length:Int):=by omega
    have hbi:(0:Int)<=(i:Int)/\(i:Int)<(r.length:Int):=by omega
    have hj1:inR .i64 ((j:Int)+1):=by rw [inR_i64]; omega
    have hi1:inR .i64 ((i:Int)+1):=by rw [inR_i64]; omega
    have hrj:r.getD j []=l.getD j []:=by
     have:=congrArg (fun x=>x.getD 0 ([]:List Int)) q5
     simpa [List.getD_eq_getElem?_getD,List.getElem?_drop] using this
    have hd1:∀ r':List (List Int),r'.drop j=l.drop j->r'.drop (j+1)=l.drop (j+1):=fun r' h=>by
     have:=congrArg (List.drop 1) h
     rwa [List.drop_drop,List.drop_drop] at this
    have hk:kept (l.take (j+1))=kept (l.take j)++if emp (l.getD j []) then [] else [l.getD j []]:=by
     unfold kept
     rw [take_snoc [] d,List.filter_append]
     congr 1
     simp only [List.filter_cons,List.filter_nil]
     cases emp (l.getD j [])<;>rfl
    simp only [hz,hrj]
    refine ⟨hb,by omega,fun e=>?_,fun e=>?_⟩
    ·have e:emp (l.getD j [])=false:=by simpa using e
     rw [e] at hk
     refine ⟨hbi,by omega,hi1,hj1,hm _ (i+1,j+1,r.set i (l.getD j [])) 1 ⟨by dsimp only; omega,d,by rw [<-q3]; exact List.length_set,?_,?_⟩ (by dsimp only; omega) ?_⟩
     ·dsimp only
      rw [hk,<-q4,List.take_add_one,List.getElem?_set_self (by omega),List.take_set]
      have:(r.take i).set i (l.getD j [])=r.take i:=List.set_eq_of_length_le (by rw [List.length_take]; omega)
      rw [this]; rfl
     ·dsimp only
      refine hd1 _ ?_
      rw [List.drop_set_of_lt (by omega)]; exact q5
     ·dsimp only [go_sem]
      and_intros<;>first|trivial|rfl|omega
    ·have e:emp (l.getD j [])=true:=by simpa using e
     rw [e] at hk
     refine ⟨hj1,hm _ (i,j+1,r) 1 ⟨by dsimp only; omega,d,q3,?_,hd1 _ q5⟩ (by dsimp only; omega) ?_⟩
     ·dsimp only
      rw [hk,q4]; simp
     ·dsimp only [go_sem]
      and_intros<;>first|trivial|rfl|omega
   ·have d:j=l.length:=by omega
    subst d
    rw [List.take_length] at q4
    have hb:(0:Int)<=(i:Int)/\(i:Int)<=(r.length:Int):=by omega
    have hll:∀ x:List Int,(r.take i++List.replicate (r.length-i) x).length=r.length:=fun x=>by rw [List.length_append,List.length_take,List.length_replicate]; omega
    have hfin:∀ x:List Int,(r.take i++List.replicate (r.length-i) x).take i=kept l:=fun x=>by
     rw [List.take_left' (by rw [List.length_take]; omega)]; exact q4
    refine ⟨hb,by omega,⟨hb.1,?_⟩,⟨trivial,trivial⟩,by omega,by omega,trivial,⟨trivial,hfin _,trivial⟩,trivial⟩
    have:=hll (zd (.slice (.int .i64)))
    have h3:((List.length (r.take i++List.replicate (r.length-i) (zd (.slice (.int .i64))):List (List Int)):Nat):Int)=(r.length:Int):=congrArg _ this
    exact h3▸hb.2
end Go.Proofs.YtdobkkhncfifeabGreat.Gx
namespace Go.Proofs.YtdobkkhncfifeabGreat.Gx
open Go Go.RowKit Tw B Nt
set_option linter.unusedVariables false
set_option linter.unusedSimpArgs false
set_option maxHeartbeats 4000000
set_option maxRecDepth 20000
def idP (n:Nat):List Int:=(List.range n).map fun k:Nat=>(k:Int)
def conA (p l:List Int):List Int:=con p l l.length
def stepN (l:List Atom) (p:List Int) (nm:Str):List Int:=conA p (occs l nm)
def stepC (l:List Atom) (p:List Int) (k:Cmp):List Int:=if k.2.1.1≠[]/\k.2.2.1≠[] then conA p (occs l k.2.1.1++occs l k.2.2.1) else p
def parN (c:Cq) (k:Nat):List Int:=((vrs (trm c)).take k).foldl (stepN c.1) (idP c.1.length)
def parC (c:Cq) (k:Nat):List Int:=(c.2.take k).foldl (stepC c.1) (parN c (vrs (trm c)).length)
def memS (s:List Int×List (List Int)) (i:Nat):List Int×List (List Int) :=
 let x:=find s.1 i
 let y:=find x.1 i
 (y.1,s.2.set x.2.toNat (s.2.getD y.2.toNat []++[(i:Int)]))
def mems (p:List Int) (n k:Nat):List Int×List (List Int):=(List.range k).foldl memS (p,List.replicate n [])
def comps (c:Cq):List (List Int):=kept (mems (parC c c.2.length) c.1.length c.1.length).2
theorem idP_len (n:Nat):(idP n).length=n:=by simp [idP]
theorem idP_wf (n:Nat):wfP (idP n):=by
 intro k hk
 rw [idP_len] at hk
 have:(idP n).getD k 0=(k:Int):=by
  unfold idP
  rw [List.getD_eq_getElem?_getD,List.getElem?_map,List.getElem?_range hk]
  rfl
 rw [this]
 exact ⟨Int.natCast_nonneg _,Int.le_refl _⟩
theorem occs_in (l:List Atom) (nm:Str):inP' l.length (occs l nm):=by
 intro x hx
 unfold occs at hx
 split at hx
 ·cases hx
 ·unfold occ at hx
  obtain ⟨y,hy,rfl⟩:=List.mem_map.1 hx
  have:=List.mem_range.1 (List.mem_filter.1 hy).1
  exact ⟨Int.natCast_nonneg _,Int.ofNat_lt.2 this⟩
theorem occs_len (l:List Atom) (nm:Str):(occs l nm).length<=l.length:=by
 unfold occs
 split
 ·exact Nat.zero_le _
 ·exact occ_len _ _ _
theorem conA_spec {n:Nat} {p l:List Int} (hw:wfP p) (hn:p.length=n) (hl:inP' n l):wfP (conA p l)/\(conA p l).length=n:=by
 subst hn
 exact con_spec hw hl _ (Nat.le_refl _)
theorem parN_succ {c:Cq} {k:Nat} (h:k<(vrs (trm c)).length):parN c (k+1)=conA (parN c k) (occs c.1 ((vrs (trm c)).getD k [])):=by
 unfold parN
 rw [take_snoc [] h,List.foldl_append]
 rfl
theorem parC_succ {c:Cq} {k:Nat} (h:k<c.2.length):parC c (k+1)=stepC c.1 (parC c k) (c.2.getD k (zd cmpT)):=by
 unfold parC
 rw [take_snoc (zd cmpT) h,List.foldl_append]
 rfl
theorem parN_spec (c:Cq):∀ k,k<=(vrs (trm c)).length->wfP (parN c k)/\(parN c k).length=c.1.length
 | 0,_=>⟨idP_wf _,idP_len _⟩
 | k+1,h=>by
  obtain ⟨h1,h2⟩:=parN_spec c k (by omega)
  rw [parN_succ h]
  exact conA_spec h1 h2 (occs_in _ _)
theorem inP'_app {n:Nat} {a b:List Int} (ha:inP' n a) (hb:inP' n b):inP' n (a++b):=by
 intro x hx
 rcases List.mem_append.1 hx with h|h
 ·exact ha x h
 ·exact hb x h
theorem stepC_spec {n:Nat} {l:List Atom} {p:List Int} {k:Cmp} (hw:wfP p) (hn:p.length=l.length):wfP (stepC l p k)/\(stepC l p k).length=l.length:=by
 unfold stepC
 split
 ·exact conA_spec hw hn (inP'_app (occs_in _ _) (occs_in _ _))
 ·exact ⟨hw,hn⟩
theorem parC_spec (c:Cq):∀ k,k<=c.2.length->wfP (parC c k)/\(parC c k).length=c.1.length
 | 0,_=>parN_spec c _ (Nat.le_refl _)
 | k+1,h=>by
  obtain ⟨h1,h2⟩:=parC_spec c k (by omega)
  rw [parC_succ h]
  exact stepC_spec (n:=0) h1 h2
theorem mems_succ (p:List Int) (n k:Nat):mems p n (k+1)=memS (mems p n k) k:=by
 unfold mems
 rw [List.range_succ,List.foldl_append]
 rfl
theorem memS_spec {n:Nat} {s:List Int×List (List Int)} {i:Nat} (hw:wfP s.1) (h1:s.1.length=n) (h2:s.2.length=n) (h3:∀ j,(s.2.getD j []).length<=i) (hi:i<n):wfP (memS s i).1/\(memS s i).1.length=n/\(memS s i).2.length=n/\∀ j,((memS s i).2.getD j []).length<=i+1:=by
 obtain ⟨r1,r2,r3,r4,r5⟩:=find_spec (i:=(i:Int)) hw (Int.natCast_nonneg _) (by rw [h1]; omega)
 obtain ⟨t1,t2,t3,t4,t5⟩:=find_spec (i:=(i:Int)) r1 (Int.natCast_nonneg _) (by rw [r2,h1]; omega)
 unfold memS
 dsimp only
 refine ⟨t1,by rw [t2,r2,h1],by rw [List.length_set]; exact h2,fun j=>?_⟩
 rw [List.getD_eq_getElem?_getD,List.getElem?_set]
 split
 ·split
  ·have:=h3 (find (find s.1 i).1 i).2.toNat
   simp only [Option.getD_some,List.length_append,List.length_singleton]
   omega
  ·simp
 ·have:=h3 j
  rw [List.getD_eq_getElem?_getD] at this
  omega
theorem mems_spec {n:Nat} {p:List Int} (hw:wfP p) (h1:p.length=n):∀ k,k<=n->wfP (mems p n k).1/\(mems p n k).1.length=n/\(mems p n k).2.length=n/\∀ j,((mems p n k).2.getD j []).length<=k
 | 0,_=>⟨hw,h1,List.length_replicate,fun j=>by
     show ((List.replicate n ([]:List Int)).getD j []).length<=0
     rw [List.getD_eq_getElem?_getD,List.getElem?_replicate]
     split<;>simp⟩
 | k+1,h=>by
  obtain ⟨q1,q2,q3,q4⟩:=mems_spec hw h1 k (by omega)
  rw [mems_succ]
  exact memS_spec q1 q2 q3 q4 h
@[go_sem] noncomputable def EH13:Env:=(EH12).addM 41 dlM
theorem EH13_ok:EH13.Ok:=(EH12_ok).addM dlM_ok
@[go_sem] def cmpS:Spec:=⟨[cqT],fun d=>(.dat (.slice (.slice (.int .i64))) (comps d.1),[cqP d.1])⟩
theorem cmp_ok:SpecOk Tryz.prog 25 cmpS:=by
 refine fn_ok EH13_ok cmpS Tryz.func25 rfl (by decide) (N:=101) rfl (res:=[.tmp 2]) rfl (by decide) [(12,[(40,.ow)]),(18,[(70,.dt),(72,.ow),(1000000,.mx [])]),(20,[(77,.ns)]),(24,[(87,.ow),(91,.ow),(95,.dt),(96,.ns),(1000000,.mx [(5,3),(6,3),(10,3),(11,3),(0,1000000),(4,1000000)])]),(26,[(100,.ow)])] [] [26] 100 (by kernel_rfl) ?_
 rintro ⟨c,_⟩ hw hp
 refine ⟨rfl,fun H hH=>?_⟩
 dsimp only [go_sem] at hw hp ⊢
 obtain ⟨hp,-⟩:=hp
 have hln:=Nat.le_trans (vrs_len (trm c)) (trm_len hp)
 have hN:=parN_spec c
 have hNs:=@parN_succ c
 have hC:=parC_spec c
 have hCs:=@parC_succ c
 have hC0:parC c 0=parN c (vrs (trm c)).length:=rfl
 have hfin:comps c=kept (mems (parC c c.2.length) c.1.length c.1.length).2:=rfl
 have hN0:parN c 0=idP c.1.length:=rfl
 have hp0:=hp
 obtain ⟨hp1,hp2,hp3⟩:=hp
 generalize en:vrs (trm c)=nm at hln hN hNs hC0
 generalize parN c=pN at hN hNs hC0 hN0
 generalize parC c=pC at hC hCs hC0 hfin
 obtain ⟨l,cs⟩:=c
 change List Atom at l
 change List Cmp at cs
 change List.length l<=1000 at hp1
 change List.length cs<=1000 at hp3
 dsimp only at hN hNs hC hCs hfin hN0
 clear hw
 simp only [Int.toNat_natCast]
 have hn8:(0:Int)<=(l.length:Int)/\(l.length:Int)<=(l.length:Int)/\(8:Int)*(l.length:Int)<=140737488355328:=by omega
 refine ⟨hn8,?_⟩
 have hz0:zd (.int .i64)=(0:Int):=rfl
 have hid:∀ i,i<l.length->(idP i++List.replicate (l.length-i) (0:Int)).set i (i:Int)=idP (i+1)++List.replicate (l.length-(i+1)) 0:=by
  intro i hi
  obtain ⟨q,hq⟩:∃ q,l.length-i=q+1:=⟨l.length-i-1,by omega⟩
  have hq':l.length-(i+1)=q:=by omega
  have hlen:=idP_len i
  rw [hq,hq',List.set_append,if_neg (by omega),hlen,Nat.sub_self,List.replicate_succ,List.set_cons_zero]
  unfold idP
  rw [List.range_succ,List.map_append,List.append_assoc]
  rfl
 refine hH.loop (fun i:Nat=>⟨[(19,.dat (.int .i64) (i:Int)),(18,.dat (.int .i64) (List.length l:Int)),(3,.ref 2 0),(1,.ref 0 0)],[(2,.box 22 (.cons (.own 1) .nil)),(1,.row 3 (.int .i64) (idP i++List.replicate (l.length-i) (0:Int))),(0,.box 29 (.cons (.dat (.slice atomT) l) (.cons (.dat (.slice cmpT) cs) .nil)))],3⟩) (fun i=>i<=l.length) (fun i=>l.length-i) 0 3 (Nat.zero_le _) ?_ ?_
 ·dsimp only [go_sem]
  rw [List.length_replicate]
  and_intros<;>first|trivial|rfl|omega
 ·intro i hi R hm
  have hll:(idP i++List.replicate (l.length-i) (0:Int)).length=l.length:=by rw [List.length_append,idP_len,List.length_replicate]; omega
  refine hH.run 100 _ _ ?_
  dsimp only [go_sem]
  simp only [Int.toNat_natCast]
  refine ⟨fun d=>?_,fun d=>?_⟩<;>simp only [decide_eq_true_eq,decide_eq_false_iff_not] at d
  ·have d:i<l.length:=by omega
   have hi1:inR .i64 ((i:Int)+1):=by rw [inR_i64]; omega
   have hb:(0:Int)<=(i:Int)/\(i:Int)<((idP i++List.replicate (l.length-i) (0:Int)).length:Int):=by rw [hll]; omega
   refine ⟨hb,by rw [hll]; exact d,hi1,hm _ (i+1) 3 d (by omega) ?_⟩
   dsimp only [go_sem]
   rw [hid i d]
   and_intros<;>first|trivial|rfl|omega
  ·have d:i=l.length:=by omega
   subst d
   rw [Nat.sub_self,List.replicate_zero,List.append_nil,<-hN0]
   clear hm hll
   refine ⟨hp0,?_⟩
   rw [en]
   refine HOk.loop (by assumption) (fun k:Nat=>⟨[(32,.dat (.int .i64) (k:Int)),(31,.dat (.int .i64) (List.length nm:Int)),(30,.dat (.slice .str) nm),(6,.clo 39 (.cons (.ref 3 0) (.cons (.ref 2 0) .nil))),(5,.ref 3 0),(3,.ref 2 0),(1,.ref 0 0)],[(3,.box 85 (.cons (.clo 38 (.cons (.ref 2 0) .nil)) .nil)),(2,.box 22 (.cons (.own 1) .nil)),(1,.row 3 (.int .i64) (pN k)),(0,.box 29 (.cons (.dat (.slice atomT) l) (.cons (.dat (.slice cmpT) cs) .nil)))],4⟩) (fun k=>k<=nm.length) (fun k=>nm.length-k) 0 4 (Nat.zero_le _) ?_ ?_
   ·dsimp only [go_sem]
    and_intros<;>first|trivial|rfl|omega
   ·intro k hk R hm
    refine hH.run 100 _ _ ?_
    dsimp only [go_sem]
    simp only [Int.toNat_natCast]
    refine ⟨fun d=>?_,fun d=>?_⟩<;>simp only [decide_eq_true_eq,decide_eq_false_iff_not] at d
    ·have d:k<nm.length:=by omega
     have hi1:inR .i64 ((k:Int)+1):=by rw [inR_i64]; omega
     obtain ⟨w1,w2⟩:=hN k hk
     have ho:=occs_in l (nm.getD k [])
     have hol:=occs_len l (nm.getD k [])
     have hg:nm.getD k (zd .str)=nm.getD k []:=rfl
     rw [hg]
     refine ⟨⟨Int.natCast_nonneg _,Int.ofNat_lt.2 d⟩,hp0,⟨w1,by rw [w2]; exact ho,by omega⟩,hi1,hH.ren [(0,0),(1,4),(2,2),(3,3)] 4 rfl rfl (Nat.zero_le _) rfl ?_⟩
     dsimp only [go_sem]
     refine hm _ (k+1) 4 d (by omega) ?_
     dsimp only [go_sem]
     rw [hNs d]
     and_intros<;>first|trivial|rfl|omega
    ·have d:k=nm.length:=by omega
     subst d
     rw [<-hC0]
     clear hm
     refine HOk.loop (by assumption) (fun k:Nat=>⟨[(45,.dat (.int .i64) (k:Int)),(44,.dat (.int .i64) (List.length cs:Int)),(43,.dat (.slice cmpT) cs),(6,.clo 39 (.cons (.ref 3 0) (.cons (.ref 2 0) .nil))),(5,.ref 3 0),(3,.ref 2 0),(1,.ref 0 0)],[(3,.box 85 (.cons (.clo 38 (.cons (.ref 2 0) .nil)) .nil)),(2,.box 22 (.cons (.own 1) .nil)),(1,.row 3 (.int .i64) (pC k)),(0,.box 29 (.cons (.dat (.slice atomT) l) (.cons (.dat (.slice cmpT) cs) .nil)))],4⟩) (fun k=>k<=cs.length) (fun k=>cs.length-k) 0 4 (Nat.zero_le _) ?_ ?_
     ·dsimp only [go_sem]
      and_intros<;>first|trivial|rfl|omega
     ·intro k hk R hm
      refine hH.run 100 _ _ ?_
      dsimp only [go_sem]
      simp only [Int.toNat_natCast]
      refine ⟨fun d=>?_,fun d=>?_⟩<;>simp only [decide_eq_true_eq,decide_eq_false_iff_not] at d
      ·have d:k<cs.length:=by omega
       have hi1:inR .i64 ((k:Int)+1):=by rw [inR_i64]; omega
       obtain ⟨w1,w2⟩:=hC k hk
       have hcs:=hCs d
       unfold stepC at hcs
       have o1:=occs_in l (cs.getD k (zd cmpT)).2.1.1
       have o2:=occs_in l (cs.getD k (zd cmpT)).2.2.1
       have n1:=occs_len l (cs.getD k (zd cmpT)).2.1.1
       have n2:=occs_len l (cs.getD k (zd cmpT)).2.2.1
       have hb1:(0:Int)<=(k:Int)/\(k:Int)<(cs.length:Int):=by omega
       have hfl:([occs l (cs.getD k (zd cmpT)).2.1.1,occs l (cs.getD k (zd cmpT)).2.2.1]:List (List Int)).flatten=occs l (cs.getD k (zd cmpT)).2.1.1++occs l (cs.getD k (zd cmpT)).2.2.1:=by simp
       have hF:([occs l (cs.getD k (zd cmpT)).2.1.1,occs l (cs.getD k (zd cmpT)).2.2.1]:List (List Int)).flatten.length<=2000000:=by rw [hfl,List.length_append]; omega
       have hI:inP' (pC k).length ([occs l (cs.getD k (zd cmpT)).2.1.1,occs l (cs.getD k (zd cmpT)).2.2.1]:List (List Int)).flatten:=by rw [hfl,w2]; exact inP'_app o1 o2
       refine ⟨hb1,fun h=>h,fun h=>h,fun h=>h,fun h=>h,fun h=>?_,fun h=>?_⟩
       ·simp only [Bool.and_eq_true,decide_eq_true_eq] at h
        have h:(cs.getD k (zd cmpT)).2.1.1≠[]/\(cs.getD k (zd cmpT)).2.2.1≠[]:=h
        rw [if_pos h,<-hfl] at hcs
        refine ⟨hp0,hp0,by show 2<=1000000; decide,hF,⟨w1,hI,hF⟩,hi1,hH.ren [(0,0),(1,5),(2,2),(3,3)] 4 rfl rfl (Nat.zero_le _) rfl ?_⟩
        dsimp only [go_sem]
        refine hm _ (k+1) 4 d (by omega) ?_
        dsimp only [go_sem]
        rw [hcs]
        and_intros<;>first|trivial|rfl|omega
       ·simp only [Bool.and_eq_false_iff,decide_eq_false_iff_not] at h
        have h:¬(cs.getD k (zd cmpT)).2.1.1≠[]∨¬(cs.getD k (zd cmpT)).2.2.1≠[]:=h
        rw [if_neg (by rintro ⟨h1,h2⟩; rcases h with h|h; exact h h1; exact h h2)] at hcs
        refine ⟨hi1,hm _ (k+1) 4 d (by omega) ?_⟩
        dsimp only [go_sem]
        rw [hcs]
        and_intros<;>first|trivial|rfl|omega
      ·have d:k=cs.length:=by omega
       subst d
       obtain ⟨w1,w2⟩:=hC _ hk
       clear hm
       generalize pC cs.length=P at w1 w2 hfin ⊢
       have hmm:=fun i hi=>mems_spec (n:=l.length) w1 w2 i hi
       have hms:=fun i=>mems_succ P l.length i
       have hn24:(0:Int)<=(l.length:Int)/\(l.length:Int)<=(l.length:Int)/\(24:Int)*(l.length:Int)<=140737488355328:=by omega
       refine ⟨hn24,?_⟩
       have hm0:mems P l.length 0=(P,List.replicate l.length []):=rfl
       refine HOk.loop (by assumption) (fun i:Nat=>⟨[(81,.dat (.int .i64) (i:Int)),(80,.dat (.int .i64) (List.length l:Int)),(11,.sli 4 l.length),(5,.ref 3 0),(3,.ref 2 0),(1,.ref 0 0)],[(3,.box 85 (.cons (.clo 38 (.cons (.ref 2 0) .nil)) .nil)),(2,.box 22 (.cons (.own 1) .nil)),(1,.row 3 (.int .i64) (mems P l.length i).1),(0,.box 29 (.cons (.dat (.slice atomT) l) (.cons (.dat (.slice cmpT) cs) .nil))),(4,.nrow 22 false 5 none),(5,.bag 3 (.int .i64) (mems P l.length i).2)],6⟩) (fun i=>i<=l.length) (fun i=>l.length-i) 0 6 (Nat.zero_le _) ?_ ?_
       ·dsimp only [go_sem]
        and_intros<;>first|trivial|rfl|omega
       ·intro i hi R hm
        refine hH.run 100 _ _ ?_
        dsimp only [go_sem]
        simp only [Int.toNat_natCast]
        refine ⟨fun d=>?_,fun d=>?_⟩<;>simp only [decide_eq_true_eq,decide_eq_false_iff_not] at d
        ·have d:i<l.length:=by omega
         have hi1:inR .i64 ((i:Int)+1):=by rw [inR_i64]; omega
         obtain ⟨m1,m2,m3,m4⟩:=hmm i hi
         have hms:=hms i
         unfold memS at hms
         dsimp only at hms
         have i0:(0:Int)<=(i:Int):=Int.natCast_nonneg _
         have i1:(i:Int)<((mems P l.length i).1.length:Int):=by rw [m2]; omega
         have hb:(0:Int)<=(i:Int)/\(i:Int)<(l.length:Int):=by omega
         have ff:=find_find m1 i0 i1
         obtain ⟨r1,r2,r3,r4,r5⟩:=find_spec m1 i0 i1
         generalize mems P l.length i=S at m1 m2 m3 m4 hms i1 ff r1 r2 r3 r4 ⊢
         generalize find S.1 i=x at hms ff r1 r2 r3 r4 ⊢
         have i2:(i:Int)<(x.1.length:Int):=by rw [r2]; exact i1
         generalize find x.1 i=y at hms ff ⊢
         have hx:(0:Int)<=x.2/\x.2<(l.length:Int):=by omega
         have hg8:∀ z:List Int,z.length<=1000->(z.length+([(i:Int)]:List Int).length)*8<=140737488355328:=fun z h=>by simp only [List.length_cons,List.length_nil]; omega
         have hzl:(S.2.getD x.2.toNat []).length<=1000:=Nat.le_trans (m4 _) (by omega)
         rw [ff] at hms ⊢
         refine ⟨⟨m1,i0,i1⟩,⟨r1,i0,i2⟩,hx,by rw [m3]; omega,hg8 _ hzl,trivial,hx,⟨rfl,trivial⟩,hi1,hH.ren [(0,0),(1,7),(2,2),(3,3),(4,4),(5,8)] 6 rfl rfl (Nat.zero_le _) rfl ?_⟩
         dsimp only [go_sem]
         refine hm _ (i+1) 6 d (by omega) ?_
         dsimp only [go_sem]
         rw [hms]
         and_intros<;>first|trivial|rfl|omega
        ·have d:i=l.length:=by omega
         subst d
         obtain ⟨m1,m2,m3,m4⟩:=hmm _ hi
         refine hH.unbag 4 rfl ?_
         refine hH.go [] 100 _ _ ?_
         dsimp only [go_sem]
         exact ⟨by rw [m3]; exact hp1,hfin.symm,trivial⟩
end Go.Proofs.YtdobkkhncfifeabGreat.Gx
namespace Go.Proofs.YtdobkkhncfifeabGreat.Gx
open Go Go.RowKit Tw B Nt
set_option linter.unusedVariables false
set_option linter.unusedSimpArgs false
set_option maxHeartbeats 4000000
set_option maxRecDepth 20000
@[go_sem] def hieS:Spec:=⟨[cqT],fun d=>(.dat .bool (!(viR d.1 (vio d.1)).2),[cqP d.1])⟩
@[go_sem] noncomputable def EH14:Env:=(EH13).add 25 cmpS
theorem EH14_ok:EH14.Ok:=(EH13_ok).add cmp_ok
theorem hie_ok:SpecOk Tryz.prog 24 hieS:=by
 refine fn_ok EH14_ok hieS Tryz.func24 rfl (by decide) (N:=12) rfl (res:=[.tmp 2]) rfl (by decide) [] [] [] 100 (by kernel_rfl) ?_
 rintro ⟨c,_⟩ hw hp
 refine ⟨rfl,fun H hH=>?_⟩
 dsimp only [go_sem] at hw hp ⊢
 obtain ⟨hp,-⟩:=hp
 refine ⟨hp,?_⟩
 and_intros<;>first|trivial|rfl
def nm8:List Str:=[[65],[66],[67],[68],[69],[70],[65],[66]]
def vn8:List Str:=[[120],[121],[122],[119],[120],[121],[],[]]
def vn4:List Str:=[[120],[121],[122],[119]]
def dg3 (x:Int) (k:Nat):Int:=x / 2 ^ (8+3*k) % 8
def bTerm (x:Int) (k:Nat):Term:=(vn8.getD (dg3 x k).toNat [],if 6<=dg3 x k then (1,dg3 x k,[]) else (0,0,[]))
def nTerm (x:Int):Nat:=1+(x / 64 % 4).toNat
def bAtom (x:Int):Atom:=(nm8.getD (x % 8).toNat [],decide (x / 8 % 8=7),(List.range (nTerm x)).map (bTerm x))
def bCmp (x:Int):Cmp:=(3,(vn4.getD (x % 4).toNat [],0,0,[]),(vn4.getD (x / 4 % 4).toNat [],0,0,[]))
def bld (l:List Int):Cq:=((l.take 7).map bAtom,if 7<l.length then [bCmp (l.getD 7 0)] else [])
theorem bld_P (l:List Int):cqP (bld l):=by
 refine ⟨?_,?_,?_⟩
 ·show ((l.take 7).map bAtom).length<=1000
  rw [List.length_map,List.length_take]; omega
 ·intro a ha
  obtain ⟨x,hx,rfl⟩:=List.mem_map.1 ha
  show ((List.range (nTerm x)).map (bTerm x)).length<=1000
  rw [List.length_map,List.length_range]
  unfold nTerm
  omega
 ·show (if 7<l.length then [bCmp (l.getD 7 0)] else []).length<=1000
  split
  ·exact Nat.le_of_ble_eq_true rfl
  ·exact Nat.zero_le _
@[go_sem] def buiS:Spec:=⟨[.slice (.int .i64)],fun d=>(.dat cqT (bld d.1),[])⟩
@[go_sem] noncomputable def EH15:Env:=(EH14).add 24 hieS
theorem EH15_ok:EH15.Ok:=(EH14_ok).add hie_ok
theorem bui_ok:SpecOk Tryz.prog 4 buiS:=by
 refine fn_ok EH15_ok buiS Tryz.func4 rfl (by decide) (N:=106) rfl (res:=[.cell 2 29]) rfl (by decide) [(1,[(9,.ag)]),(5,[(20,.dt),(35,.ag)]),(10,[(57,.dt)]),(13,[(70,.dt)]),(14,[(76,.dt)]),(16,[(84,.dt),(92,.dt),(102,.dt)])] [(14,[4])] [] 100 (by kernel_rfl) ?_
 rintro ⟨l,_⟩ hw hp
 refine ⟨rfl,fun H hH=>?_⟩
 dsimp only [go_sem] at hw hp ⊢
 obtain ⟨⟨hl1,hl2⟩,-⟩:=hw
 change List Int at l
 refine hH.loop (fun i:Nat=>⟨[(4,.dat (.int .i64) (i:Int)),(3,.ref 1 0),(2,.ref 0 0),(0,.dat (.slice (.int .i64)) l)],[(0,.box 29 (zA cqT .nil)),(1,.box 29 (.cons (.own 2) (.cons (.val (.slice none 0 0)) .nil))),(2,.row 42 atomT ((l.take i).map bAtom))],3⟩) (fun i=>i<=l.length/\i<=7) (fun i=>l.length-i) 0 2 ⟨Nat.zero_le _,Nat.zero_le _⟩ ?_ ?_
 ·dsimp only [go_sem]
  and_intros<;>first|trivial|rfl|omega
 ·rintro i ⟨hi,hi7⟩ R hm
  refine hH.run 100 _ _ ?_
  dsimp only [go_sem]
  simp only [Int.toNat_natCast]
  have a7:∀ x:Int,bitsI .and .i64 x 7=x % 8:=fun x=>andMask x 3 (by omega)
  have a3:∀ x:Int,bitsI .and .i64 x 3=x % 4:=fun x=>andMask x 2 (by omega)
  have s3:∀ x:Int,shrI .i64 x 3=x / 8:=fun x=>Int.fdiv_eq_ediv_of_nonneg x (by decide)
  have s6:∀ x:Int,shrI .i64 x 6=x / 64:=fun x=>Int.fdiv_eq_ediv_of_nonneg x (by decide)
  have hz0:zd (.int .i64)=(0:Int):=rfl
  have hzs:zd .str=([]:Str):=rfl
  simp only [a7,a3,s3,hz0,hzs]
  refine ⟨fun h=>h,fun h=>h,fun h=>?_,fun h=>?_⟩
  ·simp only [Bool.and_eq_true,decide_eq_true_eq] at h
   have d:i<l.length:=by omega
   have d7:i<7:=by omega
   have hb:(0:Int)<=(i:Int)/\(i:Int)<(l.length:Int):=by omega
   have hs:=take_snoc (0:Int) d
   have hin:inR .i64 (l.getD i 0):=hl2 _ (getDm 0 d)
   generalize hx:l.getD i 0=x at hs hin ⊢
   have h8:(0:Int)<=x % 8/\x % 8<(8:Int):=by omega
   refine ⟨hb,h8,hb,by decide,?_⟩
   have hsn:∀ k,(List.range (k+1)).map (bTerm x)=(List.range k).map (bTerm x)++[bTerm x k]:=fun k=>by rw [List.range_succ,List.map_append]; rfl
   refine HOk.loop (by assumption) (fun k:Nat=>⟨[(6,.dat (.int .i64) (k:Int)),(5,.ref 3 0),(4,.dat (.int .i64) (i:Int)),(3,.ref 1 0),(2,.ref 0 0),(0,.dat (.slice (.int .i64)) l)],[(3,.box 42 (.cons (.dat .str (nm8.getD (x % 8).toNat [])) (.cons (.dat .bool (decide (x / 8 % 8=7))) (.cons (.own 4) .nil)))),(4,.row 46 termT ((List.range k).map (bTerm x))),(0,.box 29 (zA cqT .nil)),(1,.box 29 (.cons (.own 2) (.cons (.val (.slice none 0 0)) .nil))),(2,.row 42 atomT ((l.take i).map bAtom))],5⟩) (fun k=>k<=nTerm x) (fun k=>nTerm x-k) 0 4 (Nat.zero_le _) ?_ ?_
   ·dsimp only [go_sem]
    and_intros<;>first|trivial|rfl|omega
   ·intro k hk R2 hm2
    refine hH.run 100 _ _ ?_
    dsimp only [go_sem]
    simp only [Int.toNat_natCast,a7,a3,s6,hz0,hzs,hx]
    have hnT:((nTerm x:Nat):Int)=1+x / 64 % 4:=by unfold nTerm; omega
    have hk4:k<=4:=by unfold nTerm at hk; omega
    have i1:inR .i64 (1+x / 64 % 4):=by rw [inR_i64]; omega
    have i2:inR .i64 (3*(k:Int)):=by rw [inR_i64]; omega
    have i3:inR .i64 (8+3*(k:Int)):=by rw [inR_i64]; omega
    have i4:inR .u64 (8+3*(k:Int)):=by simp only [inR,lo,Gx.hi]; omega
    have i5:(0:Int)<=8+3*(k:Int):=by omega
    have i6:inR .i64 ((k:Int)+1):=by rw [inR_i64]; omega
    have i7:inR .i64 ((i:Int)+1):=by rw [inR_i64]; omega
    have hdg:shrI .i64 x (8+3*(k:Int)) % 8=dg3 x k:=by
     unfold dg3 shrI
     have e:(8+3*(k:Int)).toNat=8+3*k:=by omega
     rw [e,Nat.min_eq_left (by show 8+3*k<=64; omega),Int.fdiv_eq_ediv_of_nonneg _ (Int.pow_nonneg (by decide))]
    have hd8:(0:Int)<=dg3 x k/\dg3 x k<(8:Int):=by unfold dg3; omega
    have hl:∀ t:Term,(((List.range k).map (bTerm x)).length+([t]:List Term).length)*48<=140737488355328:=fun t=>by rw [List.length_map,List.length_range,List.length_singleton]; omega
    have hbt:bTerm x k=(vn8.getD (dg3 x k).toNat [],if 6<=dg3 x k then (1,dg3 x k,[]) else (0,0,[])):=rfl
    rw [hdg]
    refine ⟨hb,by decide,i1,fun e=>?_,fun e=>?_⟩<;>simp only [decide_eq_true_eq,decide_eq_false_iff_not] at e
    ·have dk:k<nTerm x:=by omega
     refine ⟨hb,i2,i3,i4,i5,hd8,fun e6=>?_,fun e6=>?_⟩<;>simp only [decide_eq_true_eq,decide_eq_false_iff_not] at e6
     ·rw [if_pos e6] at hbt
      refine ⟨hl _,trivial,i6,hm2 _ (k+1) 5 dk (by omega) ?_⟩
      dsimp only [go_sem]
      rw [hsn,hbt]
      and_intros<;>first|trivial|rfl|omega
     ·rw [if_neg e6] at hbt
      refine ⟨hl _,trivial,i6,hm2 _ (k+1) 5 dk (by omega) ?_⟩
      dsimp only [go_sem]
      rw [hsn,hbt]
      and_intros<;>first|trivial|rfl|omega
    ·have dk:k=nTerm x:=by omega
     have hba:bAtom x=(nm8.getD (x % 8).toNat [],decide (x / 8 % 8=7),(List.range k).map (bTerm x)):=by rw [dk]; rfl
     have hl2:∀ t:Atom,(((l.take i).map bAtom).length+([t]:List Atom).length)*48<=140737488355328:=fun t=>by rw [List.length_map,List.length_take,List.length_singleton]; omega
     have hss:(l.take (i+1)).map bAtom=(l.take i).map bAtom++[bAtom x]:=by rw [hs,List.map_append]; rfl
     refine ⟨hl2 _,trivial,i7,hm _ (i+1) 3 ⟨d,d7⟩ (by omega) ?_⟩
     dsimp only [go_sem]
     rw [hss,hba]
     and_intros<;>first|trivial|rfl|omega
  ·simp only [Bool.and_eq_false_iff,decide_eq_false_iff_not] at h
   have hit:l.take i=l.take 7:=by
    rcases Nat.lt_or_ge i 7 with h7|h7
    ·rw [List.take_of_length_le (by omega),List.take_of_length_le (by omega)]
    ·rw [show i=7 by omega]
   rw [hit]
   have hb7:7<l.length->(0:Int)<=7/\(7:Int)<(l.length:Int):=fun h=>by omega
   have s2:∀ x:Int,shrI .i64 x 2=x / 4:=fun x=>Int.fdiv_eq_ediv_of_nonneg x (by decide)
   have h7:Int.toNat 7=7:=rfl
   simp only [s2,h7]
   generalize hx:l.getD 7 0=x
   have h4:(0:Int)<=x % 4/\x % 4<(4:Int):=by omega
   have h4':(0:Int)<=x / 4 % 4/\x / 4 % 4<(4:Int):=by omega
   refine ⟨fun e=>?_,fun e=>?_⟩<;>simp only [decide_eq_true_eq,decide_eq_false_iff_not] at e
   ·have e7:7<l.length:=by omega
    refine ⟨hb7 e7,h4,hb7 e7,by decide,h4',by show 1*104<=140737488355328; decide,?_,trivial⟩
    unfold bld
    rw [if_pos e7,hx]
    rfl
   ·have e7:¬7<l.length:=by omega
    refine ⟨?_,trivial⟩
    unfold bld
    rw [if_neg e7]
end Go.Proofs.YtdobkkhncfifeabGreat.Gx
