/-
  Contract of credencebase.Frac.
-/
import Derived.Test.YtbokoblnehgkaaaRFrac
namespace Go.Proofs.Ytbokoblnehgkaaa.Nt
open Go.ChangeShapes Go.WideShapes Go.ChangeAt Go.RowKit B
set_option linter.unusedVariables false
theorem andMask (n:Int) (k:Nat) (hk:k<62):bits .and .i64 n (2 ^ k-1)=n % 2 ^ k:=by
 have hp:(2:Nat) ^ k<2 ^ 62:=Nat.pow_lt_pow_right (by omega) hk
 have hp1:(1:Nat)<=2 ^ k:=Nat.one_le_two_pow
 have hc:((2:Int) ^ k-1)=((2 ^ k-1:Nat):Int):=by
  rw [Int.natCast_sub hp1]; simp
 have h127:(BitVec.ofInt 64 ((2:Int) ^ k-1)).toNat=2 ^ k-1:=by
  rw [hc,BitVec.toNat_ofInt]
  omega
 have key:(BitVec.ofInt 64 n &&& BitVec.ofInt 64 ((2:Int) ^ k-1)).toNat=(n % ((2 ^ 64:Nat):Int)).toNat % 2 ^ k:=by
  rw [BitVec.toNat_and,BitVec.toNat_ofInt,h127,Nat.and_two_pow_sub_one_eq_mod]
 show IntKind.i64.wrap ((BitVec.ofInt 64 n &&& BitVec.ofInt 64 ((2:Int) ^ k-1)).toNat:Nat)=n % 2 ^ k
 rw [key,IntKind.wrap_i64]
 have hd:((2:Int) ^ k) ∣ ((2 ^ 64:Nat):Int):=⟨2 ^ (64-k),by rw [<-Int.pow_add,show k+(64-k)=64 by omega]; rfl⟩
 have e1:(((n % ((2 ^ 64:Nat):Int)).toNat % 2 ^ k:Nat):Int)=n % 2 ^ k:=by
  rw [Int.natCast_emod,Int.toNat_of_nonneg (Int.emod_nonneg _ (by decide))]
  rw [Int.natCast_pow]
  exact Int.emod_emod_of_dvd n hd
 have e2:0<=n % (2:Int) ^ k:=Int.emod_nonneg _ (by have:=two_pos k; omega)
 have e3:n % (2:Int) ^ k<2 ^ k:=Int.emod_lt_of_pos _ (by have:=two_pos k; omega)
 have e4:=two_mono (show k<=62 by omega)
 rw [e1]
 have:(2:Int) ^ 62=4611686018427387904:=by decide
 omega
end Go.Proofs.Ytbokoblnehgkaaa.Nt
