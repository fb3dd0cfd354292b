/-
  Shift, LongSteps, Guess, in one text: see the remarks at the head of each part.
-/
import Derived.Test.YtdobkkhncfifeabGreatMAdd
import Derived.Test.YtdobkkhncfifeabGreatMPlain
namespace Go.Proofs.YtdobkkhncfifeabGreat.Nt
open Go.ChangeShapes Go.WideShapes Go.ChangeAt Go.RowKit B
set_option linter.unusedVariables false
theorem shr_or32 {s:Nat} (hs:s<32) (d e:Int) (hd:0<=d/\d<4294967296) (he:0<=e/\e<4294967296) :
    bits .or .u32 (d / 2 ^ s) (e*2 ^ (32-s) % 4294967296)=d / 2 ^ s+e*2 ^ (32-s) % 4294967296/\0<=d / 2 ^ s+e*2 ^ (32-s) % 4294967296/\d / 2 ^ s+e*2 ^ (32-s) % 4294967296<4294967296:=by
 have h1:=pow_bd hs
 have h2:=pow_bd2 hs
 have h3:=pow32 hs
 have a0:0<=d / 2 ^ s:=Int.ediv_nonneg hd.1 (by omega)
 have a1:d / 2 ^ s<2 ^ (32-s):=by
  apply Int.ediv_lt_of_lt_mul (by omega)
  rw [Int.mul_comm,h3]; exact hd.2
 have em:e*2 ^ (32-s) % 4294967296=(e % 2 ^ s)*2 ^ (32-s):=by
  conv=>lhs; rw [<-h3]
  rw [emod_mul _ _ (show (0:Int)<2 ^ (32-s) by omega)]
 have m0:0<=e % 2 ^ s:=Int.emod_nonneg _ (by omega)
 have m1:e % 2 ^ s<2 ^ s:=Int.emod_lt_of_pos _ (by omega)
 rw [em]
 generalize d / 2 ^ s=x at *
 generalize e % 2 ^ s=m at *
 have b2:=Int.mul_le_mul_of_nonneg_right (show m+1<=2 ^ s by omega) (show 0<=(2:Int) ^ (32-s) by omega)
 rw [h3,Int.add_mul,Int.one_mul] at b2
 have b3:=Int.mul_nonneg m0 (show 0<=(2:Int) ^ (32-s) by omega)
 refine ⟨?_,by omega,by omega⟩
 have hR:(2:Int) ^ (32-s)=((2 ^ (32-s):Nat):Int):=by simp
 rw [hR] at b2 b3 a1 ⊢
 obtain ⟨a,rfl⟩:=Int.eq_ofNat_of_zero_le a0
 obtain ⟨b,rfl⟩:=Int.eq_ofNat_of_zero_le m0
 rw [<-Int.natCast_mul] at b2 b3 ⊢
 rw [u32_or_nat _ _ (by omega) (by omega),Nat.or_comm]
 have:=Nat.shiftLeft_add_eq_or_of_lt (i:=32-s) (b:=a) (by omega) b
 rw [Nat.shiftLeft_eq] at this
 rw [<-this]
 omega
end Go.Proofs.YtdobkkhncfifeabGreat.Nt
namespace Go.Proofs.YtdobkkhncfifeabGreat.Nt
open Go.ChangeShapes Go.WideShapes Go.ChangeAt Go.RowKit B
set_option linter.unusedVariables false
end Go.Proofs.YtdobkkhncfifeabGreat.Nt
namespace Go.Proofs.YtdobkkhncfifeabGreat.Nt
open Go.ChangeShapes Go.WideShapes Go.ChangeAt Go.RowKit B
set_option linter.unusedVariables false
end Go.Proofs.YtdobkkhncfifeabGreat.Nt
