/-
  MulPlain, ShiftPlain, LongPlain, GuessPlain, LongMath, Dec, FmtPlain, in one text: see the remarks at the head of each part.
-/
import Derived.Test.YtbokoblnehgkaaaNum
import Derived.Laws.BitsAllLaws
namespace Go.Proofs.Ytbokoblnehgkaaa.Nt
set_option linter.unusedVariables false
def mulL (x:Int):List Int->List Int->Int->List Int
 | [],_,_=>[]
 | _::ws,[],c=>c::ws
 | w::ws,y::ys,c=>((x*y+w+c) % 4294967296)::mulL x ws ys ((x*y+w+c) / 4294967296)
theorem mulL_len (x:Int) (ws ys:List Int) (c:Int):(mulL x ws ys c).length=ws.length:=by
 induction ws generalizing ys c with
 | nil=>rfl
 | cons w ws ih=>rcases ys with _|⟨y,ys⟩<;>simp [mulL,ih]
theorem mulL_drop (x:Int) (ws ys:List Int) (c:Int):(mulL x ws ys c).drop (ys.length+1)=ws.drop (ys.length+1):=by
 induction ws generalizing ys c with
 | nil=>rfl
 | cons w ws ih =>
  rcases ys with _|⟨y,ys⟩
  ·simp [mulL]
  ·simp [mulL]; exact ih ys _
theorem mul_bd {x y:Int} (hx:0<=x/\x<4294967296) (hy:0<=y/\y<4294967296):0<=x*y/\x*y<=18446744065119617025:=by
 have h1:=Int.mul_nonneg hx.1 hy.1
 have h2:=Int.mul_le_mul (a:=x) (b:=y) (c:=4294967295) (d:=4294967295) (by omega) (by omega) hy.1 (by omega)
 omega
theorem mulL_N (x:Int) (ws ys:List Int) (c:Int) (h:ys.length<ws.length) (hz:ws[ys.length]?.getD 0=0):N (mulL x ws ys c)=N ws+x*N ys+c:=by
 induction ws generalizing ys c with
 | nil=>simp at h
 | cons w ws ih =>
  rcases ys with _|⟨y,ys⟩
  ·simp at hz
   subst hz
   simp [mulL,N]
   omega
  ·show (x*y+w+c) % 4294967296+4294967296*N (mulL x ws ys ((x*y+w+c) / 4294967296))=w+4294967296*N ws+x*(y+4294967296*N ys)+c
   rw [ih ys _ (by simpa using h) (by simpa using hz),Int.mul_add x y,Int.mul_left_comm x]
   omega
theorem mulL_ds {x:Int} (hx:0<=x/\x<4294967296) (ws ys:List Int) (c:Int) (hw:Ds ws) (hy:Ds ys) (hc:0<=c/\c<4294967296):Ds (mulL x ws ys c):=by
 induction ws generalizing ys c with
 | nil=>exact Ds.nil
 | cons w ws ih =>
  rcases ys with _|⟨y,ys⟩
  ·exact Ds.cons hc hw.tail
  ·have h1:=mul_bd hx hy.head
   have h2:=hw.head
   exact Ds.cons (by omega) (ih ys _ hw.tail hy.tail (by omega))
theorem mulL_step (x:Int) (r y:List Int) (i j:Nat) (c:Int) (h1:i+j<r.length) (h2:j<y.length) :
    mulL x (r.drop (i+j)) (y.drop j) c=((x*y[j]?.getD 0+r[i+j]?.getD 0+c) % 4294967296)::mulL x (r.drop (i+(j+1))) (y.drop (j+1)) ((x*y[j]?.getD 0+r[i+j]?.getD 0+c) / 4294967296):=by
 rw [drop_cons h1,drop_cons h2,mulL,Nat.add_assoc]
theorem mulL_last (x:Int) (r y:List Int) (i:Nat) (c:Int) (h1:i+y.length<r.length) :
    mulL x (r.drop (i+y.length)) (y.drop y.length) c=c::r.drop (i+y.length+1):=by
 rw [drop_cons h1,List.drop_length,mulL]
theorem set_border {p r:List Int} {k:Nat} (hp:p.length=k) (hk:k<r.length) (x:Int):(p++r.drop k).set k x=(p++[x])++r.drop (k+1):=by
 rw [List.set_append_right _ _ (by omega),hp,Nat.sub_self,drop_cons hk,List.set_cons_zero,List.append_assoc]; rfl
theorem at_border {p r:List Int} {k:Nat} (hp:p.length=k) (hk:k<r.length):(p++r.drop k)[k]?.getD 0=r[k]?.getD 0:=by
 rw [List.getElem?_append_right (by omega),hp,Nat.sub_self,drop_cons hk]; simp
theorem mul_row (r x y:List Int) (i:Nat) (hi:i<x.length) (hr:r.length=x.length+y.length) (hz:r.drop (i+y.length)=List.replicate (x.length-i) 0) (hN:N r=N (x.take i)*N y) :
    N (r.take i++mulL (x[i]?.getD 0) (r.drop i) y 0)=N (x.take (i+1))*N y/\(r.take i++mulL (x[i]?.getD 0) (r.drop i) y 0).length=x.length+y.length /\
    (r.take i++mulL (x[i]?.getD 0) (r.drop i) y 0).drop (i+1+y.length)=List.replicate (x.length-(i+1)) 0:=by
 have hl:(r.take i).length=i:=by simp; omega
 have z0:(r.drop i)[y.length]?.getD 0=0:=by
  have:=congrArg (fun l=>l[0]?.getD (0:Int)) hz
  simp only [List.getElem?_drop] at this ⊢
  rw [Nat.add_zero] at this
  rw [this]
  simp [show 0<x.length-i by omega]
 refine ⟨?_,?_,?_⟩
 ·rw [N_app,hl,mulL_N _ _ _ _ (by simp; omega) z0,take_snoc hi,N_app]
  have e:=take_drop_N r i (by omega)
  rw [hN] at e
  have hl2:(x.take i).length=i:=by simp; omega
  rw [hl2]
  simp only [N,Int.mul_zero,Int.add_zero]
  rw [Int.mul_add,<-Int.add_assoc,<-e,Int.add_mul,Int.mul_assoc]
 ·simp [mulL_len]; omega
 ·rw [List.drop_append,List.drop_eq_nil_of_le (by omega),hl,List.nil_append,show i+1+y.length-i=y.length+1 by omega,mulL_drop,List.drop_drop,show i+(y.length+1)=(i+y.length)+1 by omega,<-List.drop_drop,hz]
  obtain ⟨m,hm⟩:∃ m,x.length-i=m+1:=⟨x.length-i-1,by omega⟩
  rw [hm,show x.length-(i+1)=m by omega,List.replicate_succ]; rfl
end Go.Proofs.Ytbokoblnehgkaaa.Nt
namespace Go.Proofs.Ytbokoblnehgkaaa.Nt
set_option linter.unusedVariables false
theorem pow32 {s:Nat} (hs:s<32):(2:Int) ^ s*2 ^ (32-s)=4294967296:=by
 rw [<-Int.pow_add,show s+(32-s)=32 by omega]; rfl
theorem pow_bd {s:Nat} (hs:s<32):(1:Int)<=2 ^ s/\(2:Int) ^ s<=2147483648:=by
 refine ⟨two_pos s,?_⟩
 have:=two_mono (show s<=31 by omega)
 simpa using this
theorem pow_bd2 {s:Nat} (hs:s<32):(2:Int)<=2 ^ (32-s)/\(2:Int) ^ (32-s)<=4294967296:=by
 refine ⟨?_,?_⟩
 ·have:=two_mono (show 1<=32-s by omega)
  simpa using this
 ·have:=two_mono (show 32-s<=32 by omega)
  simpa using this
theorem emod_mul {P:Int} (d R:Int) (h:0<P):d*P % (R*P)=d % R*P:=by
 rw [Int.mul_comm d P,Int.mul_comm R P,Int.mul_emod_mul_of_pos _ _ h,Int.mul_comm]
theorem shl_mod {s:Nat} (hs:s<32) (d:Int):d*2 ^ s % 4294967296=(d % 2 ^ (32-s))*2 ^ s:=by
 rw [<-pow32 hs,Int.mul_comm (2 ^ s),emod_mul]
 exact Int.lt_of_lt_of_le (by decide) (two_pos s)
theorem shl_div {s:Nat} (hs:s<32) (d:Int):d*2 ^ s / 4294967296=d / 2 ^ (32-s):=by
 rw [<-pow32 hs,Int.mul_comm (2 ^ s),Int.mul_ediv_mul_of_pos_left]
 exact Int.lt_of_lt_of_le (by decide) (two_pos s)
theorem shl_or32 {s:Nat} (hs:s<32) (d c:Int) (hc:0<=c/\c<2 ^ s):bits .or .u32 (d*2 ^ s % 4294967296) c=d*2 ^ s % 4294967296+c:=by
 rw [shl_mod hs]
 have h1:=pow_bd hs
 have h2:=pow_bd2 hs
 have m0:0<=d % 2 ^ (32-s):=Int.emod_nonneg _ (by omega)
 have m1:d % 2 ^ (32-s)<2 ^ (32-s):=Int.emod_lt_of_pos _ (by omega)
 have hP:(2:Int) ^ s=((2 ^ s:Nat):Int):=by simp
 have hR:(2:Int) ^ (32-s)=((2 ^ (32-s):Nat):Int):=by simp
 generalize d % 2 ^ (32-s)=m at *
 obtain ⟨a,rfl⟩:=Int.eq_ofNat_of_zero_le m0
 obtain ⟨b,rfl⟩:=Int.eq_ofNat_of_zero_le hc.1
 rw [hP] at hc ⊢
 rw [hR] at m1
 have e1:a*2 ^ s<4294967296:=by
  have:a*2 ^ s<2 ^ (32-s)*2 ^ s:=Nat.mul_lt_mul_of_pos_right (by omega) (by have:=Nat.two_pow_pos s; omega)
  have q2:2 ^ s*2 ^ (32-s)=4294967296:=by rw [<-Nat.pow_add,show s+(32-s)=32 by omega]
  rw [Nat.mul_comm] at q2
  omega
 have e2:((a:Int)*((2 ^ s:Nat):Int))=((a*2 ^ s:Nat):Int):=(Int.natCast_mul a (2 ^ s)).symm
 rw [e2,u32_or_nat _ _ e1 (by omega)]
 have:=Nat.shiftLeft_add_eq_or_of_lt (i:=s) (b:=b) (by omega) a
 rw [Nat.shiftLeft_eq] at this
 rw [<-this]
 omega
def shlL (P:Int):List Int->Int->List Int
 | [],_=>[]
 | d::a,c=>(d*P % 4294967296+c)::shlL P a (d*P / 4294967296)
def shlC (P:Int):List Int->Int->Int
 | [],c=>c
 | d::a,_=>shlC P a (d*P / 4294967296)
theorem shlL_N (P:Int) (a:List Int) (c:Int):N (shlL P a c)+Bp a.length*shlC P a c=N a*P+c:=by
 induction a generalizing c with
 | nil=>simp [shlL,shlC,N,Bp]
 | cons d a ih =>
  show d*P % 4294967296+c+4294967296*N (shlL P a (d*P / 4294967296))+4294967296*Bp a.length*shlC P a (d*P / 4294967296)=(d+4294967296*N a)*P+c
  have:=ih (d*P / 4294967296)
  rw [Int.add_mul,Int.mul_assoc,Int.mul_assoc]
  omega
theorem shl_digit {s:Nat} (hs:s<32) (d c:Int) (hd:0<=d/\d<4294967296) (hc:0<=c/\c<2 ^ s) :
    (0<=d*2 ^ s % 4294967296+c/\d*2 ^ s % 4294967296+c<4294967296)/\0<=d*2 ^ s / 4294967296/\d*2 ^ s / 4294967296<2 ^ s:=by
 have h1:=pow_bd hs
 have h2:=pow_bd2 hs
 have m0:0<=d % 2 ^ (32-s):=Int.emod_nonneg _ (by omega)
 have m1:d % 2 ^ (32-s)<2 ^ (32-s):=Int.emod_lt_of_pos _ (by omega)
 refine ⟨?_,?_,?_⟩
 ·rw [shl_mod hs]
  generalize d % 2 ^ (32-s)=m at *
  have a1:=Int.mul_nonneg m0 (show 0<=(2:Int) ^ s by omega)
  have a2:=Int.mul_le_mul_of_nonneg_right (show m+1<=2 ^ (32-s) by omega) (show 0<=(2:Int) ^ s by omega)
  rw [Int.mul_comm (2 ^ (32-s)),pow32 hs,Int.add_mul,Int.one_mul] at a2
  omega
 ·exact Int.ediv_nonneg (Int.mul_nonneg hd.1 (by omega)) (by decide)
 ·apply Int.ediv_lt_of_lt_mul (by decide)
  have:=Int.mul_lt_mul_of_pos_right hd.2 (show 0<(2:Int) ^ s by omega)
  rw [Int.mul_comm (2 ^ s)]
  exact this
theorem shlL_ds {s:Nat} (hs:s<32) (a:List Int) (c:Int) (ha:Ds a) (hc:0<=c/\c<2 ^ s):Ds (shlL (2 ^ s) a c)/\0<=shlC (2 ^ s) a c/\shlC (2 ^ s) a c<2 ^ s:=by
 induction a generalizing c with
 | nil=>exact ⟨Ds.nil,hc⟩
 | cons d a ih =>
  have h:=shl_digit hs d c ha.head hc
  have i:=ih (d*2 ^ s / 4294967296) ha.tail h.2
  exact ⟨Ds.cons h.1 i.1,i.2⟩
theorem shlL_step (P:Int) (x:List Int) (k:Nat) (c:Int) (h:k<x.length) :
    shlL P (x.drop k) c=(x[k]?.getD 0*P % 4294967296+c)::shlL P (x.drop (k+1)) (x[k]?.getD 0*P / 4294967296)/\shlC P (x.drop k) c=shlC P (x.drop (k+1)) (x[k]?.getD 0*P / 4294967296):=by
 rw [drop_cons h,shlL,shlC]
 exact ⟨rfl,rfl⟩
def shrL (P R:Int):List Int->List Int
 | []=>[]
 | [d]=>[d / P]
 | d::e::a=>(d / P+(e*R) % 4294967296)::shrL P R (e::a)
theorem shrL_N {s:Nat} (hs:s<32) (a:List Int):N (shrL (2 ^ s) (2 ^ (32-s)) a)=N a / 2 ^ s:=by
 have h1:=pow_bd hs
 have h2:=pow_bd2 hs
 have h3:=pow32 hs
 induction a with
 | nil=>simp [shrL,N]
 | cons d a ih =>
  rcases a with _|⟨e,a⟩
  ·simp [shrL,N]
  ·show d / 2 ^ s+(e*2 ^ (32-s)) % 4294967296+4294967296*N (shrL (2 ^ s) (2 ^ (32-s)) (e::a))=(d+4294967296*N (e::a)) / 2 ^ s
   rw [ih]
   have em:e*2 ^ (32-s) % 4294967296=(N (e::a) % 2 ^ s)*2 ^ (32-s):=by
    conv=>lhs; rw [<-h3]
    rw [emod_mul _ _ (show (0:Int)<2 ^ (32-s) by omega)]
    congr 1
    show e % 2 ^ s=(e+4294967296*N a) % 2 ^ s
    rw [<-h3,Int.mul_assoc,Int.add_mul_emod_self_left]
   rw [em]
   generalize N (e::a)=M
   have k:(d+4294967296*M) / 2 ^ s=d / 2 ^ s+2 ^ (32-s)*M:=by
    rw [<-h3,Int.mul_assoc,Int.add_mul_ediv_left _ _ (by omega)]
   have q:=Int.mul_ediv_add_emod M (2 ^ s)
   rw [k]
   generalize M / 2 ^ s=A at *
   generalize M % 2 ^ s=C at *
   have:(2:Int) ^ (32-s)*M=4294967296*A+C*2 ^ (32-s):=by
    rw [<-q,Int.mul_add,<-Int.mul_assoc,Int.mul_comm (2 ^ (32-s)) (2 ^ s),h3,Int.mul_comm _ C]
   rw [this]
   omega
end Go.Proofs.Ytbokoblnehgkaaa.Nt
namespace Go.Proofs.Ytbokoblnehgkaaa.Nt
set_option linter.unusedVariables false
def smL (f:Int):List Int->List Int->Int->Int->List Int
 | [],_,_,_=>[]
 | w::ws,[],c,b=>((w-c-b) % 4294967296)::ws
 | w::ws,v::vs,c,b=>((w-(f*v+c) % 4294967296-b) % 4294967296)::smL f ws vs ((f*v+c) / 4294967296) (-((w-(f*v+c) % 4294967296-b) / 4294967296))
def smF (f:Int):List Int->List Int->Int->Int->Int
 | [],_,_,_=>0
 | w::_,[],c,b => -((w-c-b) / 4294967296)
 | w::ws,v::vs,c,b=>smF f ws vs ((f*v+c) / 4294967296) (-((w-(f*v+c) % 4294967296-b) / 4294967296))
theorem smL_len (f:Int) (ws vs:List Int) (c b:Int):(smL f ws vs c b).length=ws.length:=by
 induction ws generalizing vs c b with
 | nil=>rfl
 | cons w ws ih=>rcases vs with _|⟨v,vs⟩<;>simp [smL,ih]
theorem smL_drop (f:Int) (ws vs:List Int) (c b:Int):(smL f ws vs c b).drop (vs.length+1)=ws.drop (vs.length+1):=by
 induction ws generalizing vs c b with
 | nil=>rfl
 | cons w ws ih =>
  rcases vs with _|⟨v,vs⟩
  ·simp [smL]
  ·simp [smL]; exact ih vs _ _
theorem smL_ds (f:Int) (ws vs:List Int) (c b:Int) (hw:Ds ws):Ds (smL f ws vs c b):=by
 induction ws generalizing vs c b with
 | nil=>exact Ds.nil
 | cons w ws ih =>
  rcases vs with _|⟨v,vs⟩
  ·exact Ds.cons (by omega) hw.tail
  ·exact Ds.cons (by omega) (ih vs _ _ hw.tail)
theorem smL_N (f:Int) (ws vs:List Int) (c b:Int) (h:vs.length<ws.length):N (smL f ws vs c b)=N ws-f*N vs-c-b+Bp (vs.length+1)*smF f ws vs c b:=by
 induction ws generalizing vs c b with
 | nil=>simp at h
 | cons w ws ih =>
  rcases vs with _|⟨v,vs⟩
  ·simp [smL,smF,N,Bp]; omega
  ·show (w-(f*v+c) % 4294967296-b) % 4294967296+4294967296*N (smL f ws vs ((f*v+c) / 4294967296) (-((w-(f*v+c) % 4294967296-b) / 4294967296))) =
     w+4294967296*N ws-f*(v+4294967296*N vs)-c-b+4294967296*Bp (vs.length+1)*smF f ws vs ((f*v+c) / 4294967296) (-((w-(f*v+c) % 4294967296-b) / 4294967296))
   rw [ih vs _ _ (by simpa using h),Int.mul_add f v,Int.mul_left_comm f 4294967296,Int.mul_assoc]
   omega
theorem smL_step (f:Int) (r y:List Int) (i j:Nat) (c b:Int) (h1:i+j<r.length) (h2:j<y.length) :
    smL f (r.drop (i+j)) (y.drop j) c b=((r[i+j]?.getD 0-(f*y[j]?.getD 0+c) % 4294967296-b) % 4294967296)::smL f (r.drop (i+(j+1))) (y.drop (j+1)) ((f*y[j]?.getD 0+c) / 4294967296) (-((r[i+j]?.getD 0-(f*y[j]?.getD 0+c) % 4294967296-b) / 4294967296)) /\
    smF f (r.drop (i+j)) (y.drop j) c b=smF f (r.drop (i+(j+1))) (y.drop (j+1)) ((f*y[j]?.getD 0+c) / 4294967296) (-((r[i+j]?.getD 0-(f*y[j]?.getD 0+c) % 4294967296-b) / 4294967296)):=by
 rw [drop_cons h1,drop_cons h2,smL,smF,Nat.add_assoc]
 exact ⟨rfl,rfl⟩
theorem smL_last (f:Int) (r y:List Int) (i:Nat) (c b:Int) (h1:i+y.length<r.length) :
    smL f (r.drop (i+y.length)) (y.drop y.length) c b=((r[i+y.length]?.getD 0-c-b) % 4294967296)::r.drop (i+y.length+1) /\
    smF f (r.drop (i+y.length)) (y.drop y.length) c b = -((r[i+y.length]?.getD 0-c-b) / 4294967296):=by
 rw [drop_cons h1,List.drop_length,smL,smF]
 exact ⟨rfl,rfl⟩
def abL:List Int->List Int->Int->List Int
 | [],_,_=>[]
 | w::ws,[],c=>((w+c) % 4294967296)::ws
 | w::ws,v::vs,c=>((w+v+c) % 4294967296)::abL ws vs ((w+v+c) / 4294967296)
def abF:List Int->List Int->Int->Int
 | [],_,_=>0
 | w::_,[],c=>(w+c) / 4294967296
 | w::ws,v::vs,c=>abF ws vs ((w+v+c) / 4294967296)
theorem abL_len (ws vs:List Int) (c:Int):(abL ws vs c).length=ws.length:=by
 induction ws generalizing vs c with
 | nil=>rfl
 | cons w ws ih=>rcases vs with _|⟨v,vs⟩<;>simp [abL,ih]
theorem abL_drop (ws vs:List Int) (c:Int):(abL ws vs c).drop (vs.length+1)=ws.drop (vs.length+1):=by
 induction ws generalizing vs c with
 | nil=>rfl
 | cons w ws ih =>
  rcases vs with _|⟨v,vs⟩
  ·simp [abL]
  ·simp [abL]; exact ih vs _
theorem abL_ds (ws vs:List Int) (c:Int) (hw:Ds ws):Ds (abL ws vs c):=by
 induction ws generalizing vs c with
 | nil=>exact Ds.nil
 | cons w ws ih =>
  rcases vs with _|⟨v,vs⟩
  ·exact Ds.cons (by omega) hw.tail
  ·exact Ds.cons (by omega) (ih vs _ hw.tail)
theorem abL_N (ws vs:List Int) (c:Int) (h:vs.length<ws.length):N (abL ws vs c)=N ws+N vs+c-Bp (vs.length+1)*abF ws vs c:=by
 induction ws generalizing vs c with
 | nil=>simp at h
 | cons w ws ih =>
  rcases vs with _|⟨v,vs⟩
  ·simp [abL,abF,N,Bp]; omega
  ·show (w+v+c) % 4294967296+4294967296*N (abL ws vs ((w+v+c) / 4294967296))=w+4294967296*N ws+(v+4294967296*N vs)+c-4294967296*Bp (vs.length+1)*abF ws vs ((w+v+c) / 4294967296)
   rw [ih vs _ (by simpa using h),Int.mul_assoc]
   omega
theorem abF_bd (ws vs:List Int) (c:Int) (hw:Ds ws) (hv:Ds vs) (hc:0<=c/\c<=1) (h:vs.length<ws.length):abF ws vs c=0∨abF ws vs c=1:=by
 induction ws generalizing vs c with
 | nil=>simp at h
 | cons w ws ih =>
  have h1:=hw.head
  rcases vs with _|⟨v,vs⟩
  ·show (w+c) / 4294967296=0∨(w+c) / 4294967296=1
   omega
  ·have h2:=hv.head
   exact ih vs _ hw.tail hv.tail (by omega) (by simpa using h)
theorem abL_step (r y:List Int) (i j:Nat) (c:Int) (h1:i+j<r.length) (h2:j<y.length) :
    abL (r.drop (i+j)) (y.drop j) c=((r[i+j]?.getD 0+y[j]?.getD 0+c) % 4294967296)::abL (r.drop (i+(j+1))) (y.drop (j+1)) ((r[i+j]?.getD 0+y[j]?.getD 0+c) / 4294967296):=by
 rw [drop_cons h1,drop_cons h2,abL,Nat.add_assoc]
theorem abL_last (r y:List Int) (i:Nat) (c:Int) (h1:i+y.length<r.length) :
    abL (r.drop (i+y.length)) (y.drop y.length) c=((r[i+y.length]?.getD 0+c) % 4294967296)::r.drop (i+y.length+1):=by
 rw [drop_cons h1,List.drop_length,abL]
theorem N_from (L M:List Int) (j:Nat) (hj:j<=L.length):N (L.take j++M)=N L+Bp j*(N M-N (L.drop j)):=by
 have e:=take_drop_N L j hj
 have hl:(L.take j).length=j:=by simp; omega
 rw [N_app,hl,Int.mul_sub]
 omega
theorem u64_sub2 (x m b:Int) (hx:0<=x/\x<4294967296) (hm:0<=m/\m<4294967296) (hb:0<=b/\b<=1) :
    IntKind.u64.wrap (IntKind.u64.wrap (x-m)-b) % 4294967296=(x-m-b) % 4294967296/\IntKind.u64.wrap (IntKind.u64.wrap (x-m)-b) / 9223372036854775808 = -((x-m-b) / 4294967296):=by
 have e:∀ z:Int,IntKind.u64.wrap z=z % 18446744073709551616:=fun z=>by simp [IntKind.wrap,IntKind.bits,IntKind.signed]
 rw [e,e]
 omega
end Go.Proofs.Ytbokoblnehgkaaa.Nt
namespace Go.Proofs.Ytbokoblnehgkaaa.Nt
set_option linter.unusedVariables false
section
variable {M v1 v2 top u2 Vl Ul Wn Vn:Int}
theorem gd_top (hM:1<=M) (hVl:Vl<M) (hUl:0<=Ul) (hv2:v2<4294967296) (hu2:0<=u2)
    (eW:Wn=Ul+M*(u2+4294967296*top)) (eV:Vn=Vl+M*(v2+4294967296*v1)) (h:Wn<Vn*4294967296):top<=v1*4294967296+4294967295:=by
 rcases Int.lt_or_le (v2+4294967296*v1) top with hh|hh
 ·exfalso
  have a:=Int.mul_le_mul_of_nonneg_left (show v2+4294967296*v1+1<=top by omega) (show 0<=M by omega)
  have b:=Int.mul_nonneg (show 0<=M by omega) hu2
  have e1:M*(u2+4294967296*top)=M*u2+4294967296*(M*top):=by rw [Int.mul_add,Int.mul_left_comm]
  have e2:(Vl+M*(v2+4294967296*v1))*4294967296=4294967296*Vl+4294967296*(M*(v2+4294967296*v1)):=by rw [Int.mul_comm,Int.mul_add]
  rw [Int.mul_add M _ 1,Int.mul_one] at a
  rw [eW,eV,e1,e2] at h
  omega
 ·omega
theorem gd_start {q:Int} (hM:1<=M) (hVl:0<=Vl) (hUl:Ul<M) (hv1:1<=v1) (hv2:0<=v2) (hu2:u2<4294967296) (hq:0<=q)
    (eW:Wn=Ul+M*(u2+4294967296*top)) (eV:Vn=Vl+M*(v2+4294967296*v1)) (h:q*Vn<=Wn):q<=top / v1:=by
 rw [Int.le_ediv_iff_mul_le (by omega)]
 rcases Int.lt_or_le top (q*v1) with hh|hh
 ·exfalso
  have a1:=Int.mul_le_mul_of_nonneg_left (show 4294967296*v1<=v2+4294967296*v1 by omega) (show 0<=M by omega)
  have a2:=Int.mul_le_mul_of_nonneg_left (show M*(4294967296*v1)<=Vn by omega) hq
  have e1:q*(M*(4294967296*v1))=4294967296*(M*(q*v1)):=by
   rw [Int.mul_left_comm M,Int.mul_left_comm q 4294967296,Int.mul_left_comm q M]
  have a3:=Int.mul_le_mul_of_nonneg_left (show top+1<=q*v1 by omega) (show 0<=M by omega)
  have a4:=Int.mul_le_mul_of_nonneg_left (show u2<=4294967295 by omega) (show 0<=M by omega)
  have e2:M*(u2+4294967296*top)=M*u2+4294967296*(M*top):=by rw [Int.mul_add,Int.mul_left_comm]
  rw [Int.mul_add,Int.mul_one] at a3
  rw [e2] at eW
  rw [e1] at a2
  omega
 ·exact hh
theorem gd_down {q g rest:Int} (hM:1<=M) (hVl:0<=Vl) (hUl:Ul<M) (hg:0<=g) (hV:1<=Vn)
    (eW:Wn=Ul+M*(u2+4294967296*top)) (eV:Vn=Vl+M*(v2+4294967296*v1)) (h:q*Vn<=Wn) (hlt:Wn<Vn*4294967296) (ht:top=g*v1+rest)
    (hbad:4294967296<=g∨rest*4294967296+u2<g*v2):q<=g-1:=by
 rcases Int.lt_or_le (g-1) q with hh|hh
 ·exfalso
  have a0:=Int.mul_le_mul_of_nonneg_right (show g<=q by omega) (show 0<=Vn by omega)
  rcases hbad with hb|hb
  ·have a1:=Int.mul_le_mul_of_nonneg_right (show 4294967296<=g by omega) (show 0<=Vn by omega)
   rw [Int.mul_comm Vn] at hlt
   omega
  ·have e1:g*(v2+4294967296*v1)=g*v2+4294967296*(g*v1):=by rw [Int.mul_add,Int.mul_left_comm]
   have a1:u2+4294967296*top+1<=g*(v2+4294967296*v1):=by rw [e1]; omega
   have a2:=Int.mul_le_mul_of_nonneg_left a1 (show 0<=M by omega)
   have a3:=Int.mul_nonneg hg hVl
   have e2:g*Vn=g*Vl+M*(g*(v2+4294967296*v1)):=by rw [eV,Int.mul_add,Int.mul_left_comm]
   rw [Int.mul_add M _ 1,Int.mul_one] at a2
   omega
 ·exact hh
theorem gd_end {q g rest:Int} (hM:1<=M) (hVl:0<=Vl/\Vl<M) (hUl:0<=Ul) (hg:0<=g/\g<4294967296) (hv1:1<=v1) (hv2:0<=v2/\v2<4294967296) (hu2:0<=u2)
    (eW:Wn=Ul+M*(u2+4294967296*top)) (eV:Vn=Vl+M*(v2+4294967296*v1)) (h:Wn<(q+1)*Vn) (ht:top=g*v1+rest)
    (hgood:4294967296<=rest∨g*v2<=rest*4294967296+u2):g<=q+1:=by
 have hg2:g*v2<=rest*4294967296+u2:=by
  rcases hgood with hb|hb
  ·have:=mul_bd hg hv2; omega
  ·exact hb
 rcases Int.lt_or_le (q+1) g with hh|hh
 ·exfalso
  have e1:g*(v2+4294967296*v1)=g*v2+4294967296*(g*v1):=by rw [Int.mul_add,Int.mul_left_comm]
  have a1:g*(v2+4294967296*v1)<=u2+4294967296*top:=by rw [e1]; omega
  have a2:=Int.mul_le_mul_of_nonneg_left a1 (show 0<=M by omega)
  have e2:g*Vn=g*Vl+M*(g*(v2+4294967296*v1)):=by rw [eV,Int.mul_add,Int.mul_left_comm]
  have a3:=Int.mul_le_mul_of_nonneg_left (show Vl<=M by omega) hg.1
  have a4:=Int.mul_le_mul_of_nonneg_right (show g<=4294967295 by omega) (show 0<=M by omega)
  have a5:=Int.mul_le_mul_of_nonneg_left (show 4294967296<=v2+4294967296*v1 by omega) (show 0<=M by omega)
  have hV:1<=Vn:=by omega
  have a6:=Int.mul_le_mul_of_nonneg_right (show q+1+1<=g by omega) (show 0<=Vn by omega)
  rw [Int.add_mul _ 1,Int.one_mul] at a6
  omega
 ·exact hh
end
theorem N_top2 {l:List Int} (h:Ds l) (n:Nat) (hn:l.length=n+2) :
    N l=N (l.take n)+Bp n*(l[n]?.getD 0+4294967296*l[n+1]?.getD 0)/\0<=N (l.take n)/\N (l.take n)<Bp n:=by
 have e:=take_drop_N l n (by omega)
 have e1:N (l.drop n)=l[n]?.getD 0+4294967296*l[n+1]?.getD 0:=by
  rw [N_drop (by omega),N_drop (by omega),List.drop_eq_nil_of_le (by omega)]; simp [N]
 have h1:=N_nonneg (h.take n)
 have h2:=N_lt (h.take n)
 have h3:(l.take n).length=n:=by simp; omega
 rw [h3] at h2
 rw [e1] at e
 exact ⟨e,h1,h2⟩
theorem N_top3 {l:List Int} (h:Ds l) (n:Nat) (hn:l.length=n+3) :
    N l=N (l.take n)+Bp n*(l[n]?.getD 0+4294967296*(l[n+2]?.getD 0*4294967296+l[n+1]?.getD 0))/\0<=N (l.take n)/\N (l.take n)<Bp n:=by
 have e:=take_drop_N l n (by omega)
 have e1:N (l.drop n)=l[n]?.getD 0+4294967296*(l[n+2]?.getD 0*4294967296+l[n+1]?.getD 0):=by
  rw [N_drop (by omega),N_drop (by omega),N_drop (by omega),List.drop_eq_nil_of_le (by omega),show n+1+1=n+2 from rfl]; simp [N]; omega
 have h1:=N_nonneg (h.take n)
 have h2:=N_lt (h.take n)
 have h3:(l.take n).length=n:=by simp; omega
 rw [h3] at h2
 rw [e1] at e
 exact ⟨e,h1,h2⟩
end Go.Proofs.Ytbokoblnehgkaaa.Nt
namespace Go.Proofs.Ytbokoblnehgkaaa.Nt
set_option linter.unusedVariables false
section
variable {L V:List Int} {j:Nat}
theorem win_high (hL:Ds L) (hV:Ds V) (hlen:j+V.length+1<=L.length) (hb:N L<N V*Bp (j+1)):N (L.drop (j+V.length+1))=0:=by
 have h1:=N_lt hV
 have e:=take_drop_N L (j+V.length+1) hlen
 have h2:=N_nonneg (hL.take (j+V.length+1))
 have h3:=N_nonneg (hL.drop (j+V.length+1))
 rcases Int.lt_or_eq_of_le h3 with h4|h4
 ·exfalso
  have hB:Bp (j+V.length+1)=Bp V.length*Bp (j+1):=by rw [<-Bp_add]; congr 1; omega
  have a1:=Int.mul_le_mul_of_nonneg_right (show N V<=Bp V.length by omega) (show 0<=Bp (j+1) by have:=Bp_pos (j+1); omega)
  have a2:=Int.mul_le_mul_of_nonneg_left (show 1<=N (L.drop (j+V.length+1)) by omega) (show 0<=Bp (j+V.length+1) by have:=Bp_pos (j+V.length+1); omega)
  rw [Int.mul_one] at a2
  omega
 ·exact h4.symm
theorem win_eq (hlen:j+V.length+1<=L.length):L.drop j=(L.drop j).take (V.length+1)++L.drop (j+V.length+1):=by
 conv=>lhs; rw [<-List.take_append_drop (V.length+1) (L.drop j)]
 rw [List.drop_drop,Nat.add_assoc]
theorem win_N (hL:Ds L) (hV:Ds V) (hlen:j+V.length+1<=L.length) (hb:N L<N V*Bp (j+1)):N (L.drop j)=N ((L.drop j).take (V.length+1)):=by
 have e:=congrArg N (win_eq (V:=V) hlen)
 rw [N_app,win_high hL hV hlen hb,Int.mul_zero,Int.add_zero] at e
 exact e
theorem win_lt (hL:Ds L) (hV:Ds V) (hlen:j+V.length+1<=L.length) (hb:N L<N V*Bp (j+1)):N ((L.drop j).take (V.length+1))<N V*4294967296:=by
 rw [<-win_N hL hV hlen hb]
 have e:=take_drop_N L j (by omega)
 have h2:=N_nonneg (hL.take j)
 rcases Int.lt_or_le (N (L.drop j)) (N V*4294967296) with h|h
 ·exact h
 ·exfalso
  have a:=Int.mul_le_mul_of_nonneg_left h (show 0<=Bp j by have:=Bp_pos j; omega)
  rw [Bp] at hb
  have:Bp j*(N V*4294967296)=N V*(4294967296*Bp j):=by rw [Int.mul_comm,Int.mul_assoc]
  omega
theorem low_lt (M:List Int) (hM:Ds M) (k:Nat) (hk:k<=M.length) (hz:N (M.drop k)=0):N M<Bp k:=by
 have e:=take_drop_N M k hk
 rw [hz,Int.mul_zero,Int.add_zero] at e
 have:=N_lt (hM.take k)
 have h:(M.take k).length=k:=by simp; omega
 rw [h] at this
 omega
theorem drop_from (L M:List Int) (j k:Nat) (hj:j<=L.length) (hk:j<=k):(L.take j++M).drop k=M.drop (k-j):=by
 have h:(L.take j).length=j:=by simp; omega
 rw [List.drop_append,List.drop_eq_nil_of_le (by omega),List.nil_append,h]
theorem sub_exact {g:Int} (hL:Ds L) (hV:Ds V) (hlen:j+V.length+1<=L.length) (hVp:0<N V) (hb:N L<N V*Bp (j+1))
    (hq:N ((L.drop j).take (V.length+1)) / N V<=g) (hF:smF g (L.drop j) V 0 0=0) :
    g=N ((L.drop j).take (V.length+1)) / N V/\N (L.take j++smL g (L.drop j) V 0 0)=N L-Bp j*(g*N V):=by
 have e1:=smL_N g (L.drop j) V 0 0 (by simp; omega)
 rw [hF,Int.mul_zero] at e1
 have e2:=win_N hL hV hlen hb
 have h0:=N_nonneg (smL_ds g (L.drop j) V 0 0 (hL.drop j))
 refine ⟨?_,?_⟩
 ·have:g<=N ((L.drop j).take (V.length+1)) / N V:=by
    rw [Int.le_ediv_iff_mul_le hVp]; omega
  omega
 ·rw [N_from L _ j (by omega),e1]
  have:N (L.drop j)-g*N V-0-0+0-N (L.drop j) = -(g*N V):=by omega
  rw [this,Int.mul_neg]; omega
theorem sub_mend {g:Int} (hL:Ds L) (hV:Ds V) (hlen:j+V.length+1<=L.length) (hVp:0<N V) (hb:N L<N V*Bp (j+1))
    (hq:g<=N ((L.drop j).take (V.length+1)) / N V+1) (hF:smF g (L.drop j) V 0 0=1) :
    g-1=N ((L.drop j).take (V.length+1)) / N V /\
    N ((L.take j++smL g (L.drop j) V 0 0).take j++abL ((L.take j++smL g (L.drop j) V 0 0).drop j) V 0)=N L-Bp j*((g-1)*N V):=by
 have e1:=smL_N g (L.drop j) V 0 0 (by simp; omega)
 rw [hF,Int.mul_one] at e1
 have e2:=win_N hL hV hlen hb
 have hz:=win_high hL hV hlen hb
 have hd1:=smL_ds g (L.drop j) V 0 0 (hL.drop j)
 have hl1:=smL_len g (L.drop j) V 0 0
 have hdr1:=smL_drop g (L.drop j) V 0 0
 rw [List.drop_drop,<-Nat.add_assoc] at hdr1
 generalize hS:smL g (L.drop j) V 0 0=S at *
 have hlS:S.length=L.length-j:=by rw [hl1]; simp
 have hS2:N S<Bp (V.length+1):=low_lt S hd1 (V.length+1) (by omega) (by rw [hdr1]; exact hz)
 have hlt:N (L.drop j)<g*N V:=by omega
 have hg:g-1=N ((L.drop j).take (V.length+1)) / N V:=by
  have:N ((L.drop j).take (V.length+1)) / N V<g:=by rw [Int.ediv_lt_iff_lt_mul hVp]; omega
  omega
 refine ⟨hg,?_⟩
 have hj:j<=L.length:=by omega
 have t1:(L.take j++S).take j=L.take j:=by
  have h:(L.take j).length=j:=by simp; omega
  rw [List.take_append_of_le_length (by omega),List.take_of_length_le (by omega)]
 have t2:(L.take j++S).drop j=S:=by rw [drop_from L S j j hj (Nat.le_refl _),Nat.sub_self]; rfl
 rw [t1,t2]
 have f1:=abL_N S V 0 (by omega)
 have f2:=abF_bd S V 0 hd1 hV (by omega) (by omega)
 have hd2:=abL_ds S V 0 hd1
 have hl2:=abL_len S V 0
 have hdr2:=abL_drop S V 0
 have hA2:N (abL S V 0)<Bp (V.length+1):=low_lt _ hd2 (V.length+1) (by omega) (by rw [hdr2,hdr1]; exact hz)
 have hqm:(g-1)*N V<=N (L.drop j):=by
  rw [hg,e2]; exact Int.ediv_mul_le _ (by omega)
 rw [Int.sub_mul,Int.one_mul] at hqm
 have hA:N (abL S V 0)=N (L.drop j)-(g*N V-N V):=by
  rcases f2 with h|h
  ·rw [h,Int.mul_zero] at f1; omega
  ·rw [h,Int.mul_one] at f1; omega
 rw [N_from L _ j hj,hA,Int.sub_mul,Int.one_mul]
 have:N (L.drop j)-(g*N V-N V)-N (L.drop j) = -(g*N V-N V):=by omega
 rw [this,Int.mul_neg]; omega
theorem next_lt (hL:Ds L) (hV:Ds V) (hlen:j+V.length+1<=L.length) (hVp:0<N V) (hb:N L<N V*Bp (j+1)) :
    N L-Bp j*(N ((L.drop j).take (V.length+1)) / N V*N V)<N V*Bp j:=by
 have e:=take_drop_N L j (by omega)
 have e2:=win_N hL hV hlen hb
 have h1:=N_lt (hL.take j)
 have h:(L.take j).length=j:=by simp; omega
 rw [h] at h1
 rw [<-e2]
 have m:=Int.emod_lt_of_pos (N (L.drop j)) hVp
 have d:=Int.mul_ediv_add_emod (N (L.drop j)) (N V)
 rw [Int.mul_comm (N V)] at d
 generalize N (L.drop j) / N V*N V=D at *
 have a:=Int.mul_le_mul_of_nonneg_left (show N (L.drop j)-D+1<=N V by omega) (show 0<=Bp j by have:=Bp_pos j; omega)
 rw [Int.mul_add,Int.mul_sub,Int.mul_one] at a
 rw [Int.mul_comm (N V)]
 omega
end
end Go.Proofs.Ytbokoblnehgkaaa.Nt
namespace Go.Proofs.Ytbokoblnehgkaaa.Nt
set_option linter.unusedVariables false
def V10:List Int->Int
 | []=>0
 | d::l=>d+10*V10 l
def D10 (l:List Int):Prop:=∀ d∈l,0<=d/\d<10
theorem D10.head {d:Int} {l:List Int} (h:D10 (d::l)):0<=d/\d<10:=h d (by simp)
theorem D10.tail {d:Int} {l:List Int} (h:D10 (d::l)):D10 l:=fun x hx=>h x (by simp [hx])
theorem V10_nonneg {l:List Int} (h:D10 l):0<=V10 l:=by
 induction l with
 | nil=>simp [V10]
 | cons d l ih=>have:=ih h.tail; have:=h.head; rw [V10]; omega
def C10 (l:List Int):Prop:=D10 l/\l.getLast?≠some 0
theorem C10.tail {d:Int} {l:List Int} (h:C10 (d::l)):C10 l:=by
 refine ⟨h.1.tail,?_⟩
 intro e
 apply h.2
 rw [List.getLast?_cons,e]
 rfl
theorem C10.pos {l:List Int} (h:C10 l) (hne:l≠[]):0<V10 l:=by
 induction l with
 | nil=>exact absurd rfl hne
 | cons d l ih =>
  rw [V10]
  have hd:=h.1.head
  rcases l with _|⟨e,l⟩
  ·have:d≠0:=by intro e; subst e; exact h.2 rfl
   simp [V10]; omega
  ·have:=ih h.tail (by simp)
   omega
theorem C10.zero {l:List Int} (h:C10 l):V10 l=0↔l=[]:=by
 constructor
 ·intro e
  rcases l with _|⟨d,l⟩
  ·rfl
  ·have:=h.pos (by simp); omega
 ·rintro rfl; rfl
theorem C10.inj {l m:List Int} (hl:C10 l) (hm:C10 m) (e:V10 l=V10 m):l=m:=by
 induction l generalizing m with
 | nil=>exact ((hm.zero).1 e.symm).symm
 | cons d l ih =>
  rcases m with _|⟨c,m⟩
  ·exact (hl.zero).1 e
  ·rw [V10,V10] at e
   have h1:=hl.1.head
   have h2:=hm.1.head
   have h3:V10 l=V10 m:=by omega
   have h4:d=c:=by omega
   rw [h4,ih hl.tail hm.tail h3]
def decB (l:List Int):List UInt8:=l.reverse.map fun d=>UInt8.ofNat (d+48).toNat
def decS (l:List Int):ByteArray:=⟨(decB l).toArray⟩
def IsDec (s:ByteArray) (n:Int):Prop:=(n=0/\s=⟨#[48]⟩)∨(0<n/\∃ l,C10 l/\V10 l=n/\s=decS l)
theorem IsDec.unique {s t:ByteArray} {n:Int} (h:IsDec s n) (k:IsDec t n):s=t:=by
 rcases h with ⟨h1,rfl⟩|⟨h1,l,h2,h3,rfl⟩
 ·rcases k with ⟨k1,rfl⟩|⟨k1,_⟩
  ·rfl
  ·omega
 ·rcases k with ⟨k1,rfl⟩|⟨k1,m,k2,k3,rfl⟩
  ·omega
  ·rw [h2.inj k2 (h3.trans k3.symm)]
def p10:Nat->Int
 | 0=>1
 | n+1=>10*p10 n
theorem p10_pos (n:Nat):1<=p10 n:=by
 induction n with
 | zero=>decide
 | succ n ih=>rw [p10]; omega
theorem p10_mono {a b:Nat} (h:a<=b):p10 a<=p10 b:=by
 induction b with
 | zero =>
  obtain rfl:a=0:=by omega
  exact Int.le_refl _
 | succ b ih =>
  rcases Nat.lt_or_ge a (b+1) with h1|h1
  ·have:=ih (by omega); have:=p10_pos b; rw [p10]; omega
  ·obtain rfl:a=b+1:=by omega
   exact Int.le_refl _
end Go.Proofs.Ytbokoblnehgkaaa.Nt
namespace Go.Proofs.Ytbokoblnehgkaaa.Nt
set_option linter.unusedVariables false
theorem D10.nil:D10 []:=by
 intro d h
 cases h
theorem V10_snoc (l:List Int) (d:Int):V10 (l++[d])=V10 l+p10 l.length*d:=by
 induction l with
 | nil=>simp [V10,p10]
 | cons e l ih=>rw [List.cons_append,V10,V10,ih,List.length_cons,p10,Int.mul_add,Int.mul_assoc]; omega
theorem D10.snoc {l:List Int} (h:D10 l) {d:Int} (hd:0<=d/\d<10):D10 (l++[d]):=by
 intro x hx
 rcases List.mem_append.1 hx with h1|h1
 ·exact h x h1
 ·rw [List.mem_singleton.1 h1]; exact hd
theorem two_le_p10 (k:Nat):(2:Int) ^ k<=p10 k:=by
 induction k with
 | zero=>decide
 | succ k ih =>
  rw [Int.pow_succ,p10]
  have:=two_pos k
  omega
theorem p10_len {k c:Nat} {n:Int} (h:p10 k<=n) (hn:n<Bp c):k<=32*c:=by
 rcases Nat.lt_or_ge (32*c) k with h1|h1
 ·exfalso
  have a:=two_mono (show 32*c<=k by omega)
  have b:=two_le_p10 k
  rw [Bp_pow] at hn
  omega
 ·exact h1
theorem fmt_step (R:List Int) (part X:Int) (i:Nat) (hi:i<9) (n:Int) (h:n=V10 R+p10 R.length*(part+p10 (9-i)*X)) :
    n=V10 (R++[part % 10])+p10 (R++[part % 10]).length*(part / 10+p10 (9-(i+1))*X):=by
 rw [V10_snoc,List.length_append,List.length_singleton,p10,h]
 obtain ⟨m,hm⟩:∃ m,9-i=m+1:=⟨9-i-1,by omega⟩
 rw [hm,show 9-(i+1)=m by omega,p10]
 have e1:part=part % 10+10*(part / 10):=by omega
 have e2:p10 R.length*(part+10*p10 m*X)=p10 R.length*(part % 10)+10*p10 R.length*(part / 10+p10 m*X):=by
  conv=>lhs; rw [e1]
  rw [Int.mul_assoc 10 (p10 m) X,Int.mul_assoc 10 (p10 R.length)]
  simp only [Int.mul_add,Int.mul_left_comm _ 10]
  omega
 rw [e2]; omega
theorem fmt_bound (R:List Int) (part X:Int) (i:Nat) (n:Int) (hR:D10 R) (hp:0<=part) (hX:0<=X) (h:n=V10 R+p10 R.length*(part+p10 (9-i)*X)) (hpos:0<part∨0<X):p10 R.length<=n:=by
 have v:=V10_nonneg hR
 have a:=p10_pos R.length
 have b:=p10_pos (9-i)
 have c:1<=part+p10 (9-i)*X:=by
  rcases hpos with q|q
  ·have:=Int.mul_nonneg (show 0<=p10 (9-i) by omega) hX; omega
  ·have:=Int.mul_le_mul_of_nonneg_left (show 1<=X by omega) (show 0<=p10 (9-i) by omega); omega
 have d:=Int.mul_le_mul_of_nonneg_left c (show 0<=p10 R.length by omega)
 omega
theorem fmt_last (R:List Int) (d:Int) (hd:d≠0):(R++[d]).getLast?≠some 0:=by
 rw [List.getLast?_append]; simpa using hd
def turn (l:List Int) (k:Nat):List Int:=(List.range l.length).map fun t=>if t<k∨l.length-k<=t then l[l.length-1-t]?.getD 0 else l[t]?.getD 0
theorem turn_zero (l:List Int):turn l 0=l:=by
 apply List.ext_getElem
 ·simp [turn]
 ·intro i h1 h2
  have:¬l.length<=i:=by omega
  simp [turn,this,h2]
theorem turn_at (l:List Int) (k i:Nat) (h:i<l.length):(turn l k)[i]?.getD 0=if i<k∨l.length-k<=i then l[l.length-1-i]?.getD 0 else l[i]?.getD 0:=by
 simp [turn,h]
theorem turn_succ (l:List Int) (k:Nat) (h:k<l.length-1-k):((turn l k).set k (l[l.length-1-k]?.getD 0)).set (l.length-1-k) (l[k]?.getD 0)=turn l (k+1):=by
 apply List.ext_getElem
 ·simp [turn]
 ·intro i h1 h2
  have hi:i<l.length:=by simpa [turn] using h2
  simp only [turn,List.getElem_set,List.getElem_map,List.getElem_range]
  by_cases e1:l.length-1-k=i
  ·subst e1
   rw [if_pos rfl,if_pos (by omega)]
   congr 2
   omega
  ·rw [if_neg e1]
   by_cases e2:k=i
   ·subst e2
    rw [if_pos rfl,if_pos (by omega)]
   ·rw [if_neg e2]
    have:(i<k∨l.length-k<=i)↔(i<k+1∨l.length-(k+1)<=i):=by omega
    simp only [this]
theorem turn_end (l:List Int) (k:Nat) (h:l.length<=2*k+1) (hk:2*k<=l.length+1):turn l k=l.reverse:=by
 apply List.ext_getElem
 ·simp [turn]
 ·intro i h1 h2
  have hi:i<l.length:=by simpa [turn] using h1
  simp only [turn,List.getElem_map,List.getElem_range,List.getElem_reverse]
  by_cases c:i<k∨l.length-k<=i
  ·rw [if_pos c]; simp [show l.length-1-i<l.length by omega]
  ·rw [if_neg c]
   have:i=l.length-1-i:=by omega
   simp only [<-this]
   simp [hi]
end Go.Proofs.Ytbokoblnehgkaaa.Nt
