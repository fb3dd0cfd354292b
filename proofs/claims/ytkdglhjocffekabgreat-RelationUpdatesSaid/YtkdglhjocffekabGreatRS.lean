/-
  Equality of columns and values; SameSchema, SameValues, Same.
-/
import Derived.Test.YtkdglhjocffekabGreatMR3
namespace Go.Proofs.YtkdglhjocffekabGreat.Gx
open Go Go.RowKit Tw B Nt
set_option linter.unusedVariables false
set_option linter.unusedSimpArgs false
set_option maxHeartbeats 4000000
set_option maxRecDepth 20000
theorem st3_equal {P:Program} {T:TypeId} {f1 f2 f3:Field} (hu:P.underlying T=some (.struct #[f1,f2,f3])) (hs:P.stoodInHeld T=false) (n1:f1.name ≠ "_") (n2:f2.name ≠ "_") (n3:f3.name ≠ "_") (o1:f1.offset=0) (o2:f2.offset=1) (o3:f3.offset=2)
    {a1 a2 a3 b1 b2 b3:Value} {r1 r2 r3:Bool} {w:World} {d:Nat}
    (p1:∀ (xs:Array Value) (i:Nat) (v:Value),xs[i]?=some v->(part f1.type xs i).run P w=.ok v w) (p2:∀ (xs:Array Value) (i:Nat) (v:Value),xs[i]?=some v->(part f2.type xs i).run P w=.ok v w) (p3:∀ (xs:Array Value) (i:Nat) (v:Value),xs[i]?=some v->(part f3.type xs i).run P w=.ok v w)
    (e1:(Op.equalIn d f1.type a1 b1).run P w=.ok r1 w) (e2:(Op.equalIn d f2.type a2 b2).run P w=.ok r2 w) (e3:(Op.equalIn d f3.type a3 b3).run P w=.ok r3 w) :
    (Op.equalIn (d+1) T (.agg #[a1,a2,a3]) (.agg #[b1,b2,b3])).run P w=.ok (r1&&r2&&r3) w:=by
 rw [Op.equalIn]
 simp only [run_underlying hu,Sem.run_bind]
 cases r1<;>cases r2<;>cases r3<;>simp [hs,n1,n2,n3,o1,o2,o3,p1,p2,p3,e1,e2,e3,Sem.program]
theorem part_plain {P:Program} {T:TypeId} {w:World} {d:TypeDesc} (hu:P.underlying T=some d) (hd:d=.string∨d=.bool∨∃ k,d=.int k):∀ (xs:Array Value) (i:Nat) (v:Value),xs[i]?=some v->(part T xs i).run P w=.ok v w:=by
 intro xs i v h
 rcases hd with rfl|rfl|⟨k,rfl⟩<;>simp [part,isAgg,run_underlying hu,h]
theorem eq_str {P:Program} {T:TypeId} {w:World} (hu:P.underlying T=some .string) (d:Nat) (a b:Str):(Op.equalIn (d+1) T (.string ⟨a.toArray⟩) (.string ⟨b.toArray⟩)).run P w=.ok (decide (a=b)) w:=by
 have e:((⟨a.toArray⟩:ByteArray) == ⟨b.toArray⟩)=decide (a=b):=by
  show (a.toArray == b.toArray)=_
  rw [Bool.eq_iff_iff,beq_iff_eq,decide_eq_true_eq]
  exact ⟨fun h=>by simpa using congrArg Array.toList h,fun h=>by rw [h]⟩
 rw [<-e]
 simp [Op.equalIn,run_underlying hu]
theorem eq_int {P:Program} {T:TypeId} {w:World} {k:IntKind} (hu:P.underlying T=some (.int k)) (d:Nat) (a b:Int):(Op.equalIn (d+1) T (.int k a) (.int k b)).run P w=.ok (decide (a=b)) w:=by
 have e:(a == b)=decide (a=b):=by rw [Bool.eq_iff_iff,beq_iff_eq,decide_eq_true_eq]
 rw [<-e]
 simp [Op.equalIn,run_underlying hu]
theorem eq_bool {P:Program} {T:TypeId} {w:World} (hu:P.underlying T=some .bool) (d:Nat) (a b:Bool):(Op.equalIn (d+1) T (.bool a) (.bool b)).run P w=.ok (decide (a=b)) w:=by
 have e:(a == b)=decide (a=b):=by cases a<;>cases b<;>rfl
 rw [<-e]
 simp [Op.equalIn,run_underlying hu]
theorem colEq:eqOk Tryz.prog 55 colT:=by
 refine ⟨by kernel_rfl,fun X w cs cs' x y h h'=>?_⟩
 have key:∀ {cs:List Value} {x:colT.den},rep colT X w cs x->cs=[.string ⟨(x.1:Str).toArray⟩,.int .i64 x.2.1,.bool x.2.2]:=by
  intro cs x h
  obtain ⟨⟨h1,_⟩,⟨h2,_⟩,h3⟩:=h
  have h1:cs.take 1=_:=h1
  have h2:(cs.drop 1).take 1=_:=h2
  have h3:(cs.drop 1).drop 1=_:=h3
  rw [<-List.take_append_drop 1 cs,h1,<-List.take_append_drop 1 (cs.drop 1),h2,h3]; rfl
 rw [key h,key h']
 have hs:Tryz.prog.underlying 9=some .string:=by kernel_rfl
 have hi:Tryz.prog.underlying 3=some (.int .i64):=by kernel_rfl
 have hb:Tryz.prog.underlying 4=some .bool:=by kernel_rfl
 have:=st3_equal (P:=Tryz.prog) (T:=55) (w:=w) (d:=9999) rfl (by kernel_rfl) (by decide) (by decide) (by decide) rfl rfl rfl (part_plain hs (.inl rfl)) (part_plain hi (.inr (.inr ⟨_,rfl⟩))) (part_plain hb (.inr (.inl rfl))) (eq_str hs 9998 x.1 y.1) (eq_int hi 9998 x.2.1 y.2.1) (eq_bool hb 9998 x.2.2 y.2.2)
 refine this.trans ?_
 rw [Bool.and_assoc]
 rfl
theorem valEq:eqOk Tryz.prog 57 valT:=by
 refine ⟨by kernel_rfl,fun X w cs cs' x y h h'=>?_⟩
 have key:∀ {cs:List Value} {x:valT.den},rep valT X w cs x->cs=[.int .i64 x.1,.int .i64 x.2.1,.string ⟨(x.2.2:Str).toArray⟩]:=by
  intro cs x h
  obtain ⟨⟨h1,_⟩,⟨h2,_⟩,⟨h3,_⟩⟩:=h
  have h1:cs.take 1=_:=h1
  have h2:(cs.drop 1).take 1=_:=h2
  have h3:(cs.drop 1).drop 1=_:=h3
  rw [<-List.take_append_drop 1 cs,h1,<-List.take_append_drop 1 (cs.drop 1),h2,h3]; rfl
 rw [key h,key h']
 have hs:Tryz.prog.underlying 9=some .string:=by kernel_rfl
 have hi:Tryz.prog.underlying 3=some (.int .i64):=by kernel_rfl
 have hi':Tryz.prog.underlying 2=some (.int .i64):=by kernel_rfl
 have:=st3_equal (P:=Tryz.prog) (T:=57) (w:=w) (d:=9999) rfl (by kernel_rfl) (by decide) (by decide) (by decide) rfl rfl rfl (part_plain hi (.inr (.inr ⟨_,rfl⟩))) (part_plain hi' (.inr (.inr ⟨_,rfl⟩))) (part_plain hs (.inl rfl)) (eq_int hi 9998 x.1 y.1) (eq_int hi' 9998 x.2.1 y.2.1) (eq_str hs 9998 x.2.2 y.2.2)
 refine this.trans ?_
 rw [Bool.and_assoc]
 rfl
theorem eqB_val (x y:Val):eqB valT x y=decide (x=y):=by
 obtain ⟨a,b,c⟩:=x
 obtain ⟨d,e,f⟩:=y
 show (decide (a=d)&&(decide (b=e)&&decide (c=f)))=_
 by_cases h1:a=d<;>by_cases h2:b=e<;>by_cases h3:c=f<;>simp [h1,h2,h3]
theorem eqB_col (x y:Col):eqB colT x y=decide (x=y):=by
 obtain ⟨a,b,c⟩:=x
 obtain ⟨d,e,f⟩:=y
 show (decide (a=d)&&(decide (b=e)&&decide (c=f)))=_
 by_cases h1:a=d<;>by_cases h2:b=e<;>by_cases h3:c=f<;>simp [h1,h2,h3]
theorem list_eq {α:Type} {l m:List α} (d:α) (h:l.length=m.length) (he:∀ j,j<l.length->l.getD j d=m.getD j d):l=m:=by
 refine List.ext_getElem h fun j h1 h2=>?_
 have:=he j h1
 rw [List.getD_eq_getElem?_getD,List.getD_eq_getElem?_getD,List.getElem?_eq_getElem h1,List.getElem?_eq_getElem h2] at this
 exact this
@[go_sem] def smvS:Spec:=⟨[.slice valT,.slice valT],fun d=>(.dat .bool (decide ((d.1:List Val)=d.2.1)),[])⟩
theorem smv_ok:SpecOk Tryz.prog 44 smvS:=by
 refine fn_ok ER8_ok smvS Tryz.func44 rfl (by decide) (N:=26) rfl (res:=[.tmp 4]) rfl (by decide) [] [] [] 100 (by kernel_rfl) ?_
 rintro ⟨a,b,_⟩ hw hp
 refine ⟨rfl,fun H hH=>?_⟩
 dsimp only [go_sem] at hw hp ⊢
 clear hp
 change List Val at a b
 have hla:a.length<=9223372036854775807:=hw.1.1
 have hlb:b.length<=9223372036854775807:=hw.2.1.1
 clear hw
 refine ⟨fun h=>?_,fun h=>?_⟩
 ·have h:(a.length:Int)≠(b.length:Int):=of_decide_eq_true h
  refine ⟨?_,trivial⟩
  rw [decide_eq_false (fun e=>h (by rw [e]))]
 have h:¬(a.length:Int)≠(b.length:Int):=of_decide_eq_false h
 have h:a.length=b.length:=by omega
 refine hH.loop (fun i:Nat=>⟨[(5,.dat (.int .i64) (i:Int)),(0,.dat (.slice valT) a),(1,.dat (.slice valT) b)],[],0⟩) (fun i=>i<=a.length/\∀ j,j<i->a.getD j vz=b.getD j vz) (fun i=>a.length-i) 0 0 ⟨Nat.zero_le _,fun j h=>absurd h (Nat.not_lt_zero _)⟩ ?_ ?_
 ·dsimp only [go_sem]
  and_intros<;>first|trivial|rfl|omega
 ·rintro i ⟨hi,hz⟩ R hm
  refine hH.run 100 _ _ ?_
  dsimp only [go_sem]
  simp only [Int.toNat_natCast]
  have hzt:∀ j,a.getD j (zd valT)=a.getD j vz:=fun _=>rfl
  have hzb:∀ j,b.getD j (zd valT)=b.getD j vz:=fun _=>rfl
  simp only [hzt,hzb,eqB_val]
  refine ⟨fun d=>?_,fun d=>?_⟩<;>simp only [decide_eq_true_eq,decide_eq_false_iff_not] at d
  ·have d:i<a.length:=by omega
   have hb:(0:Int)<=(i:Int)/\(i:Int)<(a.length:Int):=by omega
   have hb2:(0:Int)<=(i:Int)/\(i:Int)<(b.length:Int):=by omega
   have hi1:inR .i64 ((i:Int)+1):=by rw [inR_i64]; omega
   refine ⟨hb,hb2,valEq,fun e=>?_,fun e=>⟨hi1,hm _ (i+1) 0 ⟨d,fun j hj=>?_⟩ (by omega) ?_⟩⟩<;>simp only [Bool.not_eq_true',Bool.not_eq_false',decide_eq_true_eq,decide_eq_false_iff_not] at e
   ·refine ⟨?_,trivial⟩
    rw [decide_eq_false (fun h=>e (by rw [h]))]
   ·rcases Nat.lt_or_ge j i with h'|h'
    ·exact hz j h'
    ·have:j=i:=by omega
     rw [this]; exact e
   ·dsimp only [go_sem]
    and_intros<;>first|trivial|rfl|omega
  ·have d:i=a.length:=by omega
   subst d
   rw [decide_eq_true (list_eq vz h hz)]
   exact ⟨rfl,trivial⟩
@[go_sem] def smsS:Spec:=⟨[schT,schT],fun d=>(.dat .bool (decide ((d.1:Sch)=d.2.1)),[])⟩
theorem sms_ok:SpecOk Tryz.prog 43 smsS:=by
 refine fn_ok ER8_ok smsS Tryz.func43 rfl (by decide) (N:=45) rfl (res:=[.tmp 4]) rfl (by decide) [] [] [] 100 (by kernel_rfl) ?_
 rintro ⟨a,b,_⟩ hw hp
 refine ⟨rfl,fun H hH=>?_⟩
 dsimp only [go_sem] at hw hp ⊢
 clear hp
 have hla:a.2.2.length<=9223372036854775807:=hw.1.2.2.1
 clear hw
 obtain ⟨n,c,l⟩:=a
 obtain ⟨n',c',l'⟩:=b
 change List Col at l l'
 change Str at n n'
 change Bool at c c'
 change l.length<=9223372036854775807 at hla
 simp only [imp_self,true_and]
 refine ⟨fun h=>?_,fun h=>?_⟩<;>simp only [Bool.or_eq_true,Bool.or_eq_false_iff,decide_eq_true_eq,decide_eq_false_iff_not,Decidable.not_not] at h
 ·refine ⟨(decide_eq_false fun e=>?_).symm,trivial⟩
  cases e
  rcases h with (h|h)|h<;>exact h rfl
 obtain ⟨⟨rfl,rfl⟩,h⟩:=h
 have h:(l.length:Int)=(l'.length:Int):=h
 have h:l.length=l'.length:=by omega
 refine hH.loop (fun i:Nat=>⟨[(5,.dat (.int .i64) (i:Int)),(2,.ref 0 0),(3,.ref 1 0)],[(0,.box 25 (.cons (.dat .str n) (.cons (.dat .bool c) (.cons (.dat (.slice colT) l) .nil)))),(1,.box 25 (.cons (.dat .str n) (.cons (.dat .bool c) (.cons (.dat (.slice colT) l') .nil))))],2⟩) (fun i=>i<=l.length/\∀ j,j<i->l.getD j cz=l'.getD j cz) (fun i=>l.length-i) 0 2 ⟨Nat.zero_le _,fun j h=>absurd h (Nat.not_lt_zero _)⟩ ?_ ?_
 ·dsimp only [go_sem]
  and_intros<;>first|trivial|rfl|omega
 ·rintro i ⟨hi,hz⟩ R hm
  refine hH.run 100 _ _ ?_
  dsimp only [go_sem]
  simp only [Int.toNat_natCast]
  have hzt:∀ j,l.getD j (zd colT)=l.getD j cz:=fun _=>rfl
  have hzb:∀ j,l'.getD j (zd colT)=l'.getD j cz:=fun _=>rfl
  simp only [hzt,hzb,eqB_col]
  refine ⟨fun d=>?_,fun d=>?_⟩<;>simp only [decide_eq_true_eq,decide_eq_false_iff_not] at d
  ·have d:i<l.length:=by omega
   have hb:(0:Int)<=(i:Int)/\(i:Int)<(l.length:Int):=by omega
   have hb2:(0:Int)<=(i:Int)/\(i:Int)<(l'.length:Int):=by omega
   have hi1:inR .i64 ((i:Int)+1):=by rw [inR_i64]; omega
   refine ⟨hb,hb2,colEq,fun e=>?_,fun e=>⟨hi1,hm _ (i+1) 2 ⟨d,fun j hj=>?_⟩ (by omega) ?_⟩⟩<;>simp only [Bool.not_eq_true',Bool.not_eq_false',decide_eq_true_eq,decide_eq_false_iff_not] at e
   ·refine ⟨(decide_eq_false fun h'=>?_).symm,trivial⟩
    cases h'
    exact e rfl
   ·rcases Nat.lt_or_ge j i with h'|h'
    ·exact hz j h'
    ·have:j=i:=by omega
     rw [this]; exact e
   ·dsimp only [go_sem]
    and_intros<;>first|trivial|rfl|omega
  ·have d:i=l.length:=by omega
   subst d
   have hll:=list_eq cz h hz
   subst hll
   exact ⟨(decide_eq_true rfl).symm,trivial⟩
end Go.Proofs.YtkdglhjocffekabGreat.Gx
