/-
  Plain mathematics of numbers written as lists of 32-bit digits, least first. No program in sight.
-/
import GoSem.Claim
namespace Go.Proofs.Ytbokoblnehgkaaa.Nt
set_option linter.unusedVariables false
def N:List Int->Int
 | []=>0
 | d::l=>d+4294967296*N l
def Ds (l:List Int):Prop:=∀ d∈l,0<=d/\d<4294967296
def Canon (l:List Int):Prop:=Ds l/\l.getLast?≠some 0
theorem Ds.nil:Ds []:=by intro d h; cases h
theorem Ds.cons {d:Int} {l:List Int} (h:0<=d/\d<4294967296) (hl:Ds l):Ds (d::l):=by
 intro x hx
 rcases List.mem_cons.1 hx with rfl|hx
 ·exact h
 ·exact hl x hx
theorem Ds.head {d:Int} {l:List Int} (h:Ds (d::l)):0<=d/\d<4294967296:=h d (by simp)
theorem Ds.tail {d:Int} {l:List Int} (h:Ds (d::l)):Ds l:=fun x hx=>h x (by simp [hx])
theorem Ds.app {l m:List Int} (h:Ds l) (hm:Ds m):Ds (l++m):=by
 intro x hx
 rcases List.mem_append.1 hx with h1|h1
 ·exact h x h1
 ·exact hm x h1
theorem Ds.take {l:List Int} (h:Ds l) (n:Nat):Ds (l.take n):=fun x hx=>h x (List.mem_of_mem_take hx)
theorem Ds.drop {l:List Int} (h:Ds l) (n:Nat):Ds (l.drop n):=fun x hx=>h x (List.mem_of_mem_drop hx)
theorem Ds.at {l:List Int} (h:Ds l) (i:Nat):0<=l[i]?.getD 0/\l[i]?.getD 0<4294967296:=by
 rcases Nat.lt_or_ge i l.length with hh|hh
 ·rw [List.getElem?_eq_getElem hh]; exact h _ (List.getElem_mem hh)
 ·rw [List.getElem?_eq_none hh]; simp
theorem Ds.set {l:List Int} (h:Ds l) (i:Nat) {x:Int} (hx:0<=x/\x<4294967296):Ds (l.set i x):=by
 intro d hd
 rcases List.mem_or_eq_of_mem_set hd with h1|h1
 ·exact h d h1
 ·subst h1; exact hx
theorem Ds.zeros (n:Nat):Ds (List.replicate n 0):=by
 intro d hd
 have:=List.eq_of_mem_replicate hd
 subst this; omega
theorem N_nonneg {l:List Int} (h:Ds l):0<=N l:=by
 induction l with
 | nil=>simp [N]
 | cons d l ih=>have:=ih h.tail; have:=h.head; rw [N]; omega
theorem N_zeros (n:Nat):N (List.replicate n 0)=0:=by
 induction n with
 | zero=>rfl
 | succ n ih=>rw [List.replicate_succ,N,ih]; rfl
theorem N_app_zeros (l:List Int) (n:Nat):N (l++List.replicate n 0)=N l:=by
 induction l with
 | nil=>simpa [N] using N_zeros n
 | cons d l ih=>rw [List.cons_append,N,N,ih]
def Bp:Nat->Int
 | 0=>1
 | n+1=>4294967296*Bp n
theorem Bp_pos (n:Nat):1<=Bp n:=by
 induction n with
 | zero=>decide
 | succ n ih=>rw [Bp]; omega
theorem Bp_add (m n:Nat):Bp (m+n)=Bp m*Bp n:=by
 induction m with
 | zero=>simp [Bp]
 | succ m ih=>rw [show m+1+n=(m+n)+1 by omega,Bp,Bp,ih,Int.mul_assoc]
theorem Bp_mono {m n:Nat} (h:m<=n):Bp m<=Bp n:=by
 obtain ⟨k,rfl⟩:=Nat.exists_eq_add_of_le h
 rw [Bp_add]
 have h1:=Bp_pos m
 have h2:=Bp_pos k
 have:=Int.mul_le_mul_of_nonneg_left h2 (show 0<=Bp m by omega)
 omega
theorem N_lt {l:List Int} (h:Ds l):N l<Bp l.length:=by
 induction l with
 | nil=>simp [N,Bp]
 | cons d l ih =>
  have h1:=ih h.tail
  have h2:=h.head
  rw [N,List.length_cons,Bp]
  omega
theorem N_app (l m:List Int):N (l++m)=N l+Bp l.length*N m:=by
 induction l with
 | nil=>simp [N,Bp]
 | cons d l ih=>rw [List.cons_append,N,N,ih,List.length_cons,Bp,Int.mul_add,Int.mul_assoc,Int.add_assoc]
theorem Canon.nil:Canon []:=⟨Ds.nil,by simp⟩
theorem Canon.tail {d:Int} {l:List Int} (h:Canon (d::l)):Canon l:=by
 refine ⟨h.1.tail,?_⟩
 intro e
 apply h.2
 rw [List.getLast?_cons,e]
 rfl
theorem Canon.pos {l:List Int} (h:Canon l) (hne:l≠[]):0<N l:=by
 induction l with
 | nil=>exact absurd rfl hne
 | cons d l ih =>
  rw [N]
  have hd:=h.1.head
  rcases l with _|⟨e,l⟩
  ·have:d≠0:=by intro e; subst e; exact h.2 rfl
   simp [N]; omega
  ·have:=ih h.tail (by simp)
   omega
theorem Canon.zero {l:List Int} (h:Canon l):N l=0↔l=[]:=by
 constructor
 ·intro e
  rcases l with _|⟨d,l⟩
  ·rfl
  ·have:=h.pos (by simp); omega
 ·rintro rfl; rfl
theorem Canon.inj {l m:List Int} (hl:Canon l) (hm:Canon m) (e:N l=N m):l=m:=by
 induction l generalizing m with
 | nil=>exact ((hm.zero).1 e.symm).symm
 | cons d l ih =>
  rcases m with _|⟨c,m⟩
  ·exact (hl.zero).1 e
  ·rw [N,N] at e
   have h1:=hl.1.head
   have h2:=hm.1.head
   have h3:N l=N m:=by omega
   have h4:d=c:=by omega
   rw [h4,ih hl.tail hm.tail h3]
theorem Canon.lower {l:List Int} (h:Canon l) (n:Nat) (hn:l.length=n+1):Bp n<=N l:=by
 induction l generalizing n with
 | nil=>simp at hn
 | cons d l ih =>
  have hd:=h.1.head
  rcases l with _|⟨e,l⟩
  ·have:=h.pos (by simp)
   obtain rfl:n=0:=by simpa using hn.symm
   simp [Bp]; omega
  ·rcases n with _|n
   ·simp at hn
   ·have:=ih h.tail n (by simpa using hn)
    rw [N,Bp]; omega
theorem Canon.len {l:List Int} (h:Canon l) (n:Nat) (hn:N l<Bp n):l.length<=n:=by
 rcases Nat.lt_or_ge n l.length with h1|h1
 ·exfalso
  have h2:=h.lower (l.length-1) (by omega)
  have:=Bp_mono (m:=n) (n:=l.length-1) (by omega)
  omega
 ·exact h1
theorem drop_cons {l:List Int} {k:Nat} (h:k<l.length):l.drop k=l[k]?.getD 0::l.drop (k+1):=by
 rw [List.drop_eq_getElem_cons h]; simp [h]
theorem N_drop {l:List Int} {k:Nat} (h:k<l.length):N (l.drop k)=l[k]?.getD 0+4294967296*N (l.drop (k+1)):=by
 rw [drop_cons h,N]
theorem take_snoc {l:List Int} {k:Nat} (h:k<l.length):l.take (k+1)=l.take k++[l[k]?.getD 0]:=by
 rw [List.take_succ_eq_append_getElem h]; simp [h]
theorem trimmed {l:List Int} (k:Nat) (hk:k<=l.length) (hz:∀ i,k<=i->i<l.length->l[i]?.getD 0=0):N (l.take k)=N l:=by
 have e:l=l.take k++List.replicate (l.length-k) 0:=by
  apply List.ext_getElem
  ·simp; omega
  ·intro i h1 h2
   by_cases hi:i<k
   ·rw [List.getElem_append_left (by simp; omega)]; simp
   ·rw [List.getElem_append_right (by simp; omega)]
    have:=hz i (by omega) h1
    simp [h1] at this
    simp [this]
 conv=>rhs; rw [e,N_app_zeros]
theorem canon_take {l:List Int} (h:Ds l) (k:Nat) (hk:k<=l.length) (hl:k=0∨l[k-1]?.getD 0≠0):Canon (l.take k):=by
 refine ⟨h.take k,?_⟩
 rcases Nat.eq_zero_or_pos k with h0|h0
 ·subst h0; simp
 ·rw [List.getLast?_eq_getElem?]
  have e:(l.take k).length-1=k-1:=by simp; omega
  rw [e,List.getElem?_take_of_lt (by omega)]
  intro hh
  rcases hl with h1|h1
  ·omega
  ·apply h1; rw [hh]; rfl
def cmpI (m n:Int):Int:=if m<n then -1 else if m=n then 0 else 1
theorem take_drop_N (l:List Int) (i:Nat) (h:i<=l.length):N l=N (l.take i)+Bp i*N (l.drop i):=by
 have:=N_app (l.take i) (l.drop i)
 rw [List.take_append_drop] at this
 rw [this]
 simp [Nat.min_eq_left h]
theorem lt_of_drop {l m:List Int} (hl:Ds l) (hm:Ds m) (i:Nat) (h1:i<=l.length) (h2:i<=m.length) (h:N (l.drop i)<N (m.drop i)):N l<N m:=by
 rw [take_drop_N l i h1,take_drop_N m i h2]
 have e1:=N_lt (hl.take i)
 have e2:=N_nonneg (hm.take i)
 have e3:(l.take i).length=i:=by simp; omega
 rw [e3] at e1
 have e4:=Int.mul_le_mul_of_nonneg_left (show N (l.drop i)+1<=N (m.drop i) by omega) (show 0<=Bp i by have:=Bp_pos i; omega)
 rw [Int.mul_add,Int.mul_one] at e4
 omega
theorem len_lt {l m:List Int} (hl:Canon l) (hm:Canon m) (h:l.length<m.length):N l<N m:=by
 have h1:=N_lt hl.1
 have h2:=hm.lower (m.length-1) (by omega)
 have h3:=Bp_mono (m:=l.length) (n:=m.length-1) (by omega)
 omega
def blen (n:Int):Nat:=if n=0 then 0 else n.toNat.log2+1
theorem blen_of {n:Int} {b:Nat} (h0:0<n) (h1:(2:Int) ^ b<=n) (h2:n<2 ^ (b+1)):blen n=b+1:=by
 unfold blen
 rw [if_neg (by omega)]
 congr 1
 obtain ⟨m,rfl⟩:=Int.eq_ofNat_of_zero_le (show 0<=n by omega)
 rw [Int.toNat_natCast]
 have a1:2 ^ b<=m:=by exact_mod_cast h1
 have a2:m<2 ^ (b+1):=by exact_mod_cast h2
 exact (Nat.log2_eq_iff (by omega)).2 ⟨a1,a2⟩
theorem blen_spec {n:Int} (h0:0<n):(2:Int) ^ (blen n-1)<=n/\n<2 ^ (blen n)/\1<=blen n:=by
 unfold blen
 rw [if_neg (by omega)]
 obtain ⟨m,rfl⟩:=Int.eq_ofNat_of_zero_le (show 0<=n by omega)
 rw [Int.toNat_natCast]
 refine ⟨?_,?_,by omega⟩
 ·have:=Nat.log2_self_le (n:=m) (by omega)
  rw [Nat.add_sub_cancel]
  exact_mod_cast this
 ·have:=Nat.lt_log2_self (n:=m)
  exact_mod_cast this
theorem Bp_pow (n:Nat):Bp n=2 ^ (32*n):=by
 induction n with
 | zero=>rfl
 | succ n ih=>rw [Bp,ih,show 32*(n+1)=32*n+32 by omega,Int.pow_add,Int.mul_comm]; rfl
theorem two_mono {a b:Nat} (h:a<=b):(2:Int) ^ a<=2 ^ b:=by
 have:=Nat.pow_le_pow_right (n:=2) (by omega) h
 exact_mod_cast this
theorem two_pos (a:Nat):(1:Int)<=2 ^ a:=by simpa using two_mono (Nat.zero_le a)
theorem blen_lt {n:Int} (h0:0<=n) (c:Nat) (h:n<2 ^ c):blen n<=c:=by
 rcases Int.le_iff_lt_or_eq.1 h0 with h1|h1
 ·have s:=blen_spec h1
  rcases Nat.lt_or_ge c (blen n) with h2|h2
  ·exfalso
   have:=two_mono (show c<=blen n-1 by omega)
   omega
  ·exact h2
 ·subst h1; simp [blen]
end Go.Proofs.Ytbokoblnehgkaaa.Nt
