/-
  Bits of unsigned numbers.
-/
import Derived.Test.YtadoinponngdiaaL1
namespace Go.Proofs.Ytadoinponngdiaa.Gx
open Go Go.RowKit Tw B Nt
set_option linter.unusedVariables false
set_option linter.unusedSimpArgs false
theorem ofInt_nat (w a : Nat) (h : a < 2 ^ w) : (BitVec.ofInt w (a : Int)).toNat = a := by
  rw [BitVec.ofInt_natCast, BitVec.toNat_ofNat, Nat.mod_eq_of_lt h]
theorem u64_and (a b : Nat) (ha : a < 18446744073709551616) (hb : b < 18446744073709551616) : bitsI .and .u64 (a : Int) (b : Int) = ((a &&& b : Nat) : Int) := by
  have hx : a &&& b < 2 ^ 64 := Nat.and_lt_two_pow _ (by omega)
  show IntKind.u64.wrap ((BitVec.ofInt 64 (a : Int) &&& BitVec.ofInt 64 (b : Int)).toNat : Int) = _
  rw [BitVec.toNat_and, ofInt_nat 64 a (by omega), ofInt_nat 64 b (by omega), wrap_in (by simp only [inR, lo, hi]; omega)]
theorem u64_or (a b : Nat) (ha : a < 18446744073709551616) (hb : b < 18446744073709551616) : bitsI .or .u64 (a : Int) (b : Int) = ((a ||| b : Nat) : Int) := by
  have hx : a ||| b < 2 ^ 64 := Nat.or_lt_two_pow (by omega) (by omega)
  show IntKind.u64.wrap ((BitVec.ofInt 64 (a : Int) ||| BitVec.ofInt 64 (b : Int)).toNat : Int) = _
  rw [BitVec.toNat_or, ofInt_nat 64 a (by omega), ofInt_nat 64 b (by omega), wrap_in (by simp only [inR, lo, hi]; omega)]
theorem u32_or (a b : Nat) (ha : a < 4294967296) (hb : b < 4294967296) : bitsI .or .u32 (a : Int) (b : Int) = ((a ||| b : Nat) : Int) := by
  have hx : a ||| b < 2 ^ 32 := Nat.or_lt_two_pow (by omega) (by omega)
  show IntKind.u32.wrap ((BitVec.ofInt 32 (a : Int) ||| BitVec.ofInt 32 (b : Int)).toNat : Int) = _
  rw [BitVec.toNat_or, ofInt_nat 32 a (by omega), ofInt_nat 32 b (by omega), wrap_in (by simp only [inR, lo, hi]; omega)]
theorem u8_or (a b : Nat) (ha : a < 256) (hb : b < 256) : bitsI .or .u8 (a : Int) (b : Int) = ((a ||| b : Nat) : Int) := by
  have hx : a ||| b < 2 ^ 8 := Nat.or_lt_two_pow (by omega) (by omega)
  show IntKind.u8.wrap ((BitVec.ofInt 8 (a : Int) ||| BitVec.ofInt 8 (b : Int)).toNat : Int) = _
  rw [BitVec.toNat_or, ofInt_nat 8 a (by omega), ofInt_nat 8 b (by omega), wrap_in (by simp only [inR, lo, hi]; omega)]
theorem u8_and (a b : Nat) (ha : a < 256) (hb : b < 256) : bitsI .and .u8 (a : Int) (b : Int) = ((a &&& b : Nat) : Int) := by
  have hx : a &&& b < 2 ^ 8 := Nat.and_lt_two_pow _ (by omega)
  show IntKind.u8.wrap ((BitVec.ofInt 8 (a : Int) &&& BitVec.ofInt 8 (b : Int)).toNat : Int) = _
  rw [BitVec.toNat_and, ofInt_nat 8 a (by omega), ofInt_nat 8 b (by omega), wrap_in (by simp only [inR, lo, hi]; omega)]
/-- numbers without common bits -/
theorem or_add (a b i : Nat) (h : b < 2 ^ i) : a * 2 ^ i ||| b = a * 2 ^ i + b := by
  rw [← Nat.shiftLeft_eq, Nat.shiftLeft_add_eq_or_of_lt h]
theorem or_add' (a b i : Nat) (h : b < 2 ^ i) : b ||| a * 2 ^ i = b + a * 2 ^ i := by
  rw [Nat.or_comm, or_add a b i h, Nat.add_comm]
theorem u64_and127 (m : Nat) (h : m < 18446744073709551616) : bitsI .and .u64 (m : Int) 127 = ((m % 128 : Nat) : Int) := by
  have := u64_and m 127 h (by decide)
  rw [show m &&& 127 = m % 128 from Nat.and_two_pow_sub_one_eq_mod m 7] at this
  exact this
theorem u8_and127 (m : Nat) (h : m < 256) : bitsI .and .u8 (m : Int) 127 = ((m % 128 : Nat) : Int) := by
  have := u8_and m 127 h (by decide)
  rw [show m &&& 127 = m % 128 from Nat.and_two_pow_sub_one_eq_mod m 7] at this
  exact this
theorem u8_or128 (m : Nat) (h : m < 128) : bitsI .or .u8 (m : Int) 128 = ((m + 128 : Nat) : Int) := by
  have := u8_or m 128 (by omega) (by decide)
  rw [show m ||| 128 = m + 128 from or_add' 1 m 7 h] at this
  exact this
theorem shr_nat (k : IntKind) (m s : Nat) (h : s ≤ k.bits) : shrI k (m : Int) (s : Int) = ((m / 2 ^ s : Nat) : Int) := by
  unfold shrI
  rw [Int.toNat_natCast, Nat.min_eq_left h, show ((2 : Int) ^ s) = ((2 ^ s : Nat) : Int) by simp, Int.fdiv_eq_ediv_of_nonneg _ (Int.natCast_nonneg _)]
  exact (Int.natCast_ediv _ _).symm
theorem shr7 (m : Nat) : shrI .u64 (m : Int) 7 = ((m / 128 : Nat) : Int) := shr_nat .u64 m 7 (by decide)
theorem shl_nat (k : IntKind) (m s : Nat) (h : s ≤ k.bits) (h2 : inR k ((m * 2 ^ s : Nat) : Int)) : shlI k (m : Int) (s : Int) = ((m * 2 ^ s : Nat) : Int) := by
  unfold shlI
  rw [Int.toNat_natCast, Nat.min_eq_left h, show (m : Int) * (2 : Int) ^ s = ((m * 2 ^ s : Nat) : Int) by simp, wrap_in h2]
theorem wrap_u8 (m : Nat) : IntKind.u8.wrap (m : Int) = ((m % 256 : Nat) : Int) := by
  simp only [IntKind.wrap, IntKind.bits, IntKind.signed]
  simp
end Go.Proofs.Ytadoinponngdiaa.Gx
