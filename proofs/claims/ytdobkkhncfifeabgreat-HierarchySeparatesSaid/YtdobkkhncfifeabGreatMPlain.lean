/-
  MulPlain, ShiftPlain, LongPlain, GuessPlain, LongMath, Dec, FmtPlain, in one text: see the remarks at the head of each part.
-/
import Derived.Test.YtdobkkhncfifeabGreatNum
import Derived.Laws.BitsAllLaws
namespace Go.Proofs.YtdobkkhncfifeabGreat.Nt
set_option linter.unusedVariables false
theorem set_border {p r:List Int} {k:Nat} (hp:p.length=k) (hk:k<r.length) (x:Int):(p++r.drop k).set k x=(p++[x])++r.drop (k+1):=by
 rw [List.set_append_right _ _ (by omega),hp,Nat.sub_self,drop_cons hk,List.set_cons_zero,List.append_assoc]; rfl
theorem at_border {p r:List Int} {k:Nat} (hp:p.length=k) (hk:k<r.length):(p++r.drop k)[k]?.getD 0=r[k]?.getD 0:=by
 rw [List.getElem?_append_right (by omega),hp,Nat.sub_self,drop_cons hk]; simp
end Go.Proofs.YtdobkkhncfifeabGreat.Nt
namespace Go.Proofs.YtdobkkhncfifeabGreat.Nt
set_option linter.unusedVariables false
theorem pow32 {s:Nat} (hs:s<32):(2:Int) ^ s*2 ^ (32-s)=4294967296:=by
 rw [<-Int.pow_add,show s+(32-s)=32 by omega]; rfl
theorem pow_bd {s:Nat} (hs:s<32):(1:Int)<=2 ^ s/\(2:Int) ^ s<=2147483648:=by
 refine ⟨two_pos s,?_⟩
 have:=two_mono (show s<=31 by omega)
 simpa using this
theorem pow_bd2 {s:Nat} (hs:s<32):(2:Int)<=2 ^ (32-s)/\(2:Int) ^ (32-s)<=4294967296:=by
 refine ⟨?_,?_⟩
 ·have:=two_mono (show 1<=32-s by omega)
  simpa using this
 ·have:=two_mono (show 32-s<=32 by omega)
  simpa using this
theorem emod_mul {P:Int} (d R:Int) (h:0<P):d*P % (R*P)=d % R*P:=by
 rw [Int.mul_comm d P,Int.mul_comm R P,Int.mul_emod_mul_of_pos _ _ h,Int.mul_comm]
theorem shl_mod {s:Nat} (hs:s<32) (d:Int):d*2 ^ s % 4294967296=(d % 2 ^ (32-s))*2 ^ s:=by
 rw [<-pow32 hs,Int.mul_comm (2 ^ s),emod_mul]
 exact Int.lt_of_lt_of_le (by decide) (two_pos s)
theorem shl_or32 {s:Nat} (hs:s<32) (d c:Int) (hc:0<=c/\c<2 ^ s):bits .or .u32 (d*2 ^ s % 4294967296) c=d*2 ^ s % 4294967296+c:=by
 rw [shl_mod hs]
 have h1:=pow_bd hs
 have h2:=pow_bd2 hs
 have m0:0<=d % 2 ^ (32-s):=Int.emod_nonneg _ (by omega)
 have m1:d % 2 ^ (32-s)<2 ^ (32-s):=Int.emod_lt_of_pos _ (by omega)
 have hP:(2:Int) ^ s=((2 ^ s:Nat):Int):=by simp
 have hR:(2:Int) ^ (32-s)=((2 ^ (32-s):Nat):Int):=by simp
 generalize d % 2 ^ (32-s)=m at *
 obtain ⟨a,rfl⟩:=Int.eq_ofNat_of_zero_le m0
 obtain ⟨b,rfl⟩:=Int.eq_ofNat_of_zero_le hc.1
 rw [hP] at hc ⊢
 rw [hR] at m1
 have e1:a*2 ^ s<4294967296:=by
  have:a*2 ^ s<2 ^ (32-s)*2 ^ s:=Nat.mul_lt_mul_of_pos_right (by omega) (by have:=Nat.two_pow_pos s; omega)
  have q2:2 ^ s*2 ^ (32-s)=4294967296:=by rw [<-Nat.pow_add,show s+(32-s)=32 by omega]
  rw [Nat.mul_comm] at q2
  omega
 have e2:((a:Int)*((2 ^ s:Nat):Int))=((a*2 ^ s:Nat):Int):=(Int.natCast_mul a (2 ^ s)).symm
 rw [e2,u32_or_nat _ _ e1 (by omega)]
 have:=Nat.shiftLeft_add_eq_or_of_lt (i:=s) (b:=b) (by omega) a
 rw [Nat.shiftLeft_eq] at this
 rw [<-this]
 omega
end Go.Proofs.YtdobkkhncfifeabGreat.Nt
namespace Go.Proofs.YtdobkkhncfifeabGreat.Nt
set_option linter.unusedVariables false
end Go.Proofs.YtdobkkhncfifeabGreat.Nt
namespace Go.Proofs.YtdobkkhncfifeabGreat.Nt
set_option linter.unusedVariables false
section
variable {M v1 v2 top u2 Vl Ul Wn Vn:Int}
end
end Go.Proofs.YtdobkkhncfifeabGreat.Nt
namespace Go.Proofs.YtdobkkhncfifeabGreat.Nt
set_option linter.unusedVariables false
section
variable {L V:List Int} {j:Nat}
end
end Go.Proofs.YtdobkkhncfifeabGreat.Nt
namespace Go.Proofs.YtdobkkhncfifeabGreat.Nt
set_option linter.unusedVariables false
def V10:List Int->Int
 | []=>0
 | d::l=>d+10*V10 l
def D10 (l:List Int):Prop:=∀ d∈l,0<=d/\d<10
theorem D10.head {d:Int} {l:List Int} (h:D10 (d::l)):0<=d/\d<10:=h d (by simp)
theorem D10.tail {d:Int} {l:List Int} (h:D10 (d::l)):D10 l:=fun x hx=>h x (by simp [hx])
theorem V10_nonneg {l:List Int} (h:D10 l):0<=V10 l:=by
 induction l with
 | nil=>simp [V10]
 | cons d l ih=>have:=ih h.tail; have:=h.head; rw [V10]; omega
def C10 (l:List Int):Prop:=D10 l/\l.getLast?≠some 0
theorem C10.tail {d:Int} {l:List Int} (h:C10 (d::l)):C10 l:=by
 refine ⟨h.1.tail,?_⟩
 intro e
 apply h.2
 rw [List.getLast?_cons,e]
 rfl
theorem C10.pos {l:List Int} (h:C10 l) (hne:l≠[]):0<V10 l:=by
 induction l with
 | nil=>exact absurd rfl hne
 | cons d l ih =>
  rw [V10]
  have hd:=h.1.head
  rcases l with _|⟨e,l⟩
  ·have:d≠0:=by intro e; subst e; exact h.2 rfl
   simp [V10]; omega
  ·have:=ih h.tail (by simp)
   omega
theorem C10.zero {l:List Int} (h:C10 l):V10 l=0↔l=[]:=by
 constructor
 ·intro e
  rcases l with _|⟨d,l⟩
  ·rfl
  ·have:=h.pos (by simp); omega
 ·rintro rfl; rfl
theorem C10.inj {l m:List Int} (hl:C10 l) (hm:C10 m) (e:V10 l=V10 m):l=m:=by
 induction l generalizing m with
 | nil=>exact ((hm.zero).1 e.symm).symm
 | cons d l ih =>
  rcases m with _|⟨c,m⟩
  ·exact (hl.zero).1 e
  ·rw [V10,V10] at e
   have h1:=hl.1.head
   have h2:=hm.1.head
   have h3:V10 l=V10 m:=by omega
   have h4:d=c:=by omega
   rw [h4,ih hl.tail hm.tail h3]
def decB (l:List Int):List UInt8:=l.reverse.map fun d=>UInt8.ofNat (d+48).toNat
def decS (l:List Int):ByteArray:=⟨(decB l).toArray⟩
def IsDec (s:ByteArray) (n:Int):Prop:=(n=0/\s=⟨#[48]⟩)∨(0<n/\∃ l,C10 l/\V10 l=n/\s=decS l)
theorem IsDec.unique {s t:ByteArray} {n:Int} (h:IsDec s n) (k:IsDec t n):s=t:=by
 rcases h with ⟨h1,rfl⟩|⟨h1,l,h2,h3,rfl⟩
 ·rcases k with ⟨k1,rfl⟩|⟨k1,_⟩
  ·rfl
  ·omega
 ·rcases k with ⟨k1,rfl⟩|⟨k1,m,k2,k3,rfl⟩
  ·omega
  ·rw [h2.inj k2 (h3.trans k3.symm)]
def p10:Nat->Int
 | 0=>1
 | n+1=>10*p10 n
theorem p10_pos (n:Nat):1<=p10 n:=by
 induction n with
 | zero=>decide
 | succ n ih=>rw [p10]; omega
end Go.Proofs.YtdobkkhncfifeabGreat.Nt
namespace Go.Proofs.YtdobkkhncfifeabGreat.Nt
set_option linter.unusedVariables false
theorem D10.nil:D10 []:=by
 intro d h
 cases h
theorem V10_snoc (l:List Int) (d:Int):V10 (l++[d])=V10 l+p10 l.length*d:=by
 induction l with
 | nil=>simp [V10,p10]
 | cons e l ih=>rw [List.cons_append,V10,V10,ih,List.length_cons,p10,Int.mul_add,Int.mul_assoc]; omega
theorem D10.snoc {l:List Int} (h:D10 l) {d:Int} (hd:0<=d/\d<10):D10 (l++[d]):=by
 intro x hx
 rcases List.mem_append.1 hx with h1|h1
 ·exact h x h1
 ·rw [List.mem_singleton.1 h1]; exact hd
theorem two_le_p10 (k:Nat):(2:Int) ^ k<=p10 k:=by
 induction k with
 | zero=>decide
 | succ k ih =>
  rw [Int.pow_succ,p10]
  have:=two_pos k
  omega
theorem p10_len {k c:Nat} {n:Int} (h:p10 k<=n) (hn:n<Bp c):k<=32*c:=by
 rcases Nat.lt_or_ge (32*c) k with h1|h1
 ·exfalso
  have a:=two_mono (show 32*c<=k by omega)
  have b:=two_le_p10 k
  rw [Bp_pow] at hn
  omega
 ·exact h1
theorem fmt_last (R:List Int) (d:Int) (hd:d≠0):(R++[d]).getLast?≠some 0:=by
 rw [List.getLast?_append]; simpa using hd
end Go.Proofs.YtdobkkhncfifeabGreat.Nt
