/-
  Trim, Small, in one text: see the remarks at the head of each part.
-/
import Derived.Test.YtdobkkhncfifeabGreatBase
import Derived.Test.YtdobkkhncfifeabGreatNum
import Derived.Test.YtdobkkhncfifeabGreatShelf
import Derived.Lib.ItoaNum
import Derived.WalkSmall
namespace Go.Proofs.YtdobkkhncfifeabGreat.Nt
open Go.ChangeShapes Go.WideShapes Go.ChangeAt Go.RowKit B
set_option linter.unusedVariables false
theorem info32:(Tryz.prog.info? 150).map (fun i=>(i.zero,i.size,i.bytes))=some (some (.int .u32 0),1,4):=by kernel_rfl
theorem Row.ds {w:World} {v:Value} {l:List Int} (h:Row .u32 w v l):Ds l:=fun d hd=>wf_u32 (h.wf d hd)
def Num (w:World) (v:Value) (c:Nat) (n:Int):Prop:=∃ l,Row .u32 w v l/\l.length<=c/\N l=n
def IsNew (base:Nat) (w:World) (v:Value) (n:Int):Prop:=∃ l,Row .u32 w v l/\Canon l/\N l=n/\Fresh 150 base w v
def Ret1 (base:Nat) (w:World) (n:Int) (e:Ending) (w':World):Prop:=∃ v,e=.returned v/\IsNew base w' v n/\Below base w w'
theorem Num.keep {w w':World} {v:Value} {c:Nat} {n:Int} (h:Num w v c n) (hb:Below w.heap.size w w'):Num w' v c n:=by
 obtain ⟨l,h1,h2,h3⟩:=h
 exact ⟨l,h1.keep hb,h2,h3⟩
theorem Num.nonneg {w:World} {v:Value} {c:Nat} {n:Int} (h:Num w v c n):0<=n:=by
 obtain ⟨l,h1,h2,rfl⟩:=h
 exact N_nonneg (Row.ds h1)
theorem Num.lt {w:World} {v:Value} {c:Nat} {n:Int} (h:Num w v c n):n<Bp c:=by
 obtain ⟨l,h1,h2,rfl⟩:=h
 have:=N_lt (Row.ds h1)
 have:=Bp_mono h2
 omega
theorem IsNew.num {base:Nat} {w:World} {v:Value} {n:Int} (h:IsNew base w v n) (c:Nat) (hc:n<Bp c):Num w v c n:=by
 obtain ⟨l,h1,h2,rfl,_⟩:=h
 exact ⟨l,h1,h2.len c hc,rfl⟩
theorem IsNew.nonneg {base:Nat} {w:World} {v:Value} {n:Int} (h:IsNew base w v n):0<=n:=by
 obtain ⟨l,h1,h2,rfl,_⟩:=h
 exact N_nonneg h2.1
theorem IsNew.nil (base:Nat) (w:World):IsNew base w (.slice none 0 0) 0:=⟨[],Row.nil _ _,Canon.nil,rfl,Fresh.nil _ _ _⟩
end Go.Proofs.YtdobkkhncfifeabGreat.Nt
namespace Go.Proofs.YtdobkkhncfifeabGreat.Nt
open Go.ChangeShapes Go.WideShapes Go.ChangeAt Go.RowKit B
set_option linter.unusedVariables false
theorem own2 (w:World) (x y:Int):(w.alloc (.cells #[.int .u32 x,.int .u32 y] 150)).ownsRow w.heap.size 150 1 (.slice (some ⟨w.heap.size,0,none⟩) 2 2) 2 (([x,y]:List Int).map (Value.int .u32)):=by
 refine ⟨rfl,.inr ⟨w.heap.size,2,#[.int .u32 x,.int .u32 y],rfl,Nat.le_refl _,?_,by simp,by simp [maxLen],rfl,rfl⟩⟩
 show (w.heap.push _)[w.heap.size]?=_
 simp
theorem cmp_ret {m n:Int} {x:Int} (h:cmpI m n=x):Ending.returned (.int .i64 x)=.returned (.int .i64 (cmpI m n)):=by rw [h]
end Go.Proofs.YtdobkkhncfifeabGreat.Nt
