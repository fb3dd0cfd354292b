/-
  Equality of columns and values; SameSchema, SameValues, Same.
-/
import Derived.Test.YtkdglhjocffekaaGreatMR3
namespace Go.Proofs.YtkdglhjocffekaaGreat.Gx
open Go Go.RowKit Tw B Nt
set_option linter.unusedVariables false
set_option linter.unusedSimpArgs false
set_option maxHeartbeats 4000000
set_option maxRecDepth 20000
theorem st3_equal {P:Program} {T:TypeId} {f1 f2 f3:Field} (hu:P.underlying T=some (.struct #[f1,f2,f3])) (hs:P.stoodInHeld T=false) (n1:f1.name ≠ "_") (n2:f2.name ≠ "_") (n3:f3.name ≠ "_") (o1:f1.offset=0) (o2:f2.offset=1) (o3:f3.offset=2)
    {a1 a2 a3 b1 b2 b3:Value} {r1 r2 r3:Bool} {w:World} {d:Nat}
    (p1:∀ (xs:Array Value) (i:Nat) (v:Value),xs[i]?=some v->(part f1.type xs i).run P w=.ok v w) (p2:∀ (xs:Array Value) (i:Nat) (v:Value),xs[i]?=some v->(part f2.type xs i).run P w=.ok v w) (p3:∀ (xs:Array Value) (i:Nat) (v:Value),xs[i]?=some v->(part f3.type xs i).run P w=.ok v w)
    (e1:(Op.equalIn d f1.type a1 b1).run P w=.ok r1 w) (e2:(Op.equalIn d f2.type a2 b2).run P w=.ok r2 w) (e3:(Op.equalIn d f3.type a3 b3).run P w=.ok r3 w) :
    (Op.equalIn (d+1) T (.agg #[a1,a2,a3]) (.agg #[b1,b2,b3])).run P w=.ok (r1&&r2&&r3) w:=by
 rw [Op.equalIn]
 simp only [run_underlying hu,Sem.run_bind]
 cases r1<;>cases r2<;>cases r3<;>simp [hs,n1,n2,n3,o1,o2,o3,p1,p2,p3,e1,e2,e3,Sem.program]
theorem part_plain {P:Program} {T:TypeId} {w:World} {d:TypeDesc} (hu:P.underlying T=some d) (hd:d=.string∨d=.bool∨∃ k,d=.int k):∀ (xs:Array Value) (i:Nat) (v:Value),xs[i]?=some v->(part T xs i).run P w=.ok v w:=by
 intro xs i v h
 rcases hd with rfl|rfl|⟨k,rfl⟩<;>simp [part,isAgg,run_underlying hu,h]
theorem eq_str {P:Program} {T:TypeId} {w:World} (hu:P.underlying T=some .string) (d:Nat) (a b:Str):(Op.equalIn (d+1) T (.string ⟨a.toArray⟩) (.string ⟨b.toArray⟩)).run P w=.ok (decide (a=b)) w:=by
 have e:((⟨a.toArray⟩:ByteArray) == ⟨b.toArray⟩)=decide (a=b):=by
  show (a.toArray == b.toArray)=_
  rw [Bool.eq_iff_iff,beq_iff_eq,decide_eq_true_eq]
  exact ⟨fun h=>by simpa using congrArg Array.toList h,fun h=>by rw [h]⟩
 rw [<-e]
 simp [Op.equalIn,run_underlying hu]
theorem eq_int {P:Program} {T:TypeId} {w:World} {k:IntKind} (hu:P.underlying T=some (.int k)) (d:Nat) (a b:Int):(Op.equalIn (d+1) T (.int k a) (.int k b)).run P w=.ok (decide (a=b)) w:=by
 have e:(a == b)=decide (a=b):=by rw [Bool.eq_iff_iff,beq_iff_eq,decide_eq_true_eq]
 rw [<-e]
 simp [Op.equalIn,run_underlying hu]
theorem eq_bool {P:Program} {T:TypeId} {w:World} (hu:P.underlying T=some .bool) (d:Nat) (a b:Bool):(Op.equalIn (d+1) T (.bool a) (.bool b)).run P w=.ok (decide (a=b)) w:=by
 have e:(a == b)=decide (a=b):=by cases a<;>cases b<;>rfl
 rw [<-e]
 simp [Op.equalIn,run_underlying hu]
theorem colEq:eqOk Tryz.prog 72 colT:=by
 refine ⟨by kernel_rfl,fun X w cs cs' x y h h'=>?_⟩
 have key:∀ {cs:List Value} {x:colT.den},rep colT X w cs x->cs=[.string ⟨(x.1:Str).toArray⟩,.int .i64 x.2.1,.bool x.2.2]:=by
  intro cs x h
  obtain ⟨⟨h1,_⟩,⟨h2,_⟩,h3⟩:=h
  have h1:cs.take 1=_:=h1
  have h2:(cs.drop 1).take 1=_:=h2
  have h3:(cs.drop 1).drop 1=_:=h3
  rw [<-List.take_append_drop 1 cs,h1,<-List.take_append_drop 1 (cs.drop 1),h2,h3]; rfl
 rw [key h,key h']
 have hs:Tryz.prog.underlying 9=some .string:=by kernel_rfl
 have hi:Tryz.prog.underlying 3=some (.int .i64):=by kernel_rfl
 have hb:Tryz.prog.underlying 4=some .bool:=by kernel_rfl
 have:=st3_equal (P:=Tryz.prog) (T:=72) (w:=w) (d:=9999) rfl (by kernel_rfl) (by decide) (by decide) (by decide) rfl rfl rfl (part_plain hs (.inl rfl)) (part_plain hi (.inr (.inr ⟨_,rfl⟩))) (part_plain hb (.inr (.inl rfl))) (eq_str hs 9998 x.1 y.1) (eq_int hi 9998 x.2.1 y.2.1) (eq_bool hb 9998 x.2.2 y.2.2)
 refine this.trans ?_
 rw [Bool.and_assoc]
 rfl
theorem valEq:eqOk Tryz.prog 53 valT:=by
 refine ⟨by kernel_rfl,fun X w cs cs' x y h h'=>?_⟩
 have key:∀ {cs:List Value} {x:valT.den},rep valT X w cs x->cs=[.int .i64 x.1,.int .i64 x.2.1,.string ⟨(x.2.2:Str).toArray⟩]:=by
  intro cs x h
  obtain ⟨⟨h1,_⟩,⟨h2,_⟩,⟨h3,_⟩⟩:=h
  have h1:cs.take 1=_:=h1
  have h2:(cs.drop 1).take 1=_:=h2
  have h3:(cs.drop 1).drop 1=_:=h3
  rw [<-List.take_append_drop 1 cs,h1,<-List.take_append_drop 1 (cs.drop 1),h2,h3]; rfl
 rw [key h,key h']
 have hs:Tryz.prog.underlying 9=some .string:=by kernel_rfl
 have hi:Tryz.prog.underlying 3=some (.int .i64):=by kernel_rfl
 have hi':Tryz.prog.underlying 2=some (.int .i64):=by kernel_rfl
 have:=st3_equal (P:=Tryz.prog) (T:=53) (w:=w) (d:=9999) rfl (by kernel_rfl) (by decide) (by decide) (by decide) rfl rfl rfl (part_plain hi (.inr (.inr ⟨_,rfl⟩))) (part_plain hi' (.inr (.inr ⟨_,rfl⟩))) (part_plain hs (.inl rfl)) (eq_int hi 9998 x.1 y.1) (eq_int hi' 9998 x.2.1 y.2.1) (eq_str hs 9998 x.2.2 y.2.2)
 refine this.trans ?_
 rw [Bool.and_assoc]
 rfl
theorem eqB_val (x y:Val):eqB valT x y=decide (x=y):=by
 obtain ⟨a,b,c⟩:=x
 obtain ⟨d,e,f⟩:=y
 show (decide (a=d)&&(decide (b=e)&&decide (c=f)))=_
 by_cases h1:a=d<;>by_cases h2:b=e<;>by_cases h3:c=f<;>simp [h1,h2,h3]
theorem eqB_col (x y:Col):eqB colT x y=decide (x=y):=by
 obtain ⟨a,b,c⟩:=x
 obtain ⟨d,e,f⟩:=y
 show (decide (a=d)&&(decide (b=e)&&decide (c=f)))=_
 by_cases h1:a=d<;>by_cases h2:b=e<;>by_cases h3:c=f<;>simp [h1,h2,h3]
theorem list_eq {α:Type} {l m:List α} (d:α) (h:l.length=m.length) (he:∀ j,j<l.length->l.getD j d=m.getD j d):l=m:=by
 refine List.ext_getElem h fun j h1 h2=>?_
 have:=he j h1
 rw [List.getD_eq_getElem?_getD,List.getD_eq_getElem?_getD,List.getElem?_eq_getElem h1,List.getElem?_eq_getElem h2] at this
 exact this
end Go.Proofs.YtkdglhjocffekaaGreat.Gx
