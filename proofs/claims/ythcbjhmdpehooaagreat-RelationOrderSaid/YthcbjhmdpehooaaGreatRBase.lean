/-
  Contract of credencebase.Frac.
-/
import Derived.Test.YthcbjhmdpehooaaGreatRFrac
namespace Go.Proofs.YthcbjhmdpehooaaGreat.Nt
open Go.ChangeShapes Go.WideShapes Go.ChangeAt Go.RowKit B
set_option linter.unusedVariables false
theorem andMask (n : Int) (k : Nat) (hk : k < 62) : bits .and .i64 n (2 ^ k - 1) = n % 2 ^ k := by
 have hp : (2 : Nat) ^ k < 2 ^ 62 := Nat.pow_lt_pow_right (by omega) hk
 have hp1 : (1 : Nat) ≤ 2 ^ k := Nat.one_le_two_pow
 have hc : ((2 : Int) ^ k - 1) = ((2 ^ k - 1 : Nat) : Int) := by
  rw [Int.natCast_sub hp1]; simp
 have h127 : (BitVec.ofInt 64 ((2 : Int) ^ k - 1)).toNat = 2 ^ k - 1 := by
  rw [hc, BitVec.toNat_ofInt]
  omega
 have key : (BitVec.ofInt 64 n &&& BitVec.ofInt 64 ((2 : Int) ^ k - 1)).toNat = (n % ((2 ^ 64 : Nat) : Int)).toNat % 2 ^ k := by
  rw [BitVec.toNat_and, BitVec.toNat_ofInt, h127, Nat.and_two_pow_sub_one_eq_mod]
 show IntKind.i64.wrap ((BitVec.ofInt 64 n &&& BitVec.ofInt 64 ((2 : Int) ^ k - 1)).toNat : Nat) = n % 2 ^ k
 rw [key, IntKind.wrap_i64]
 have hd : ((2 : Int) ^ k) ∣ ((2 ^ 64 : Nat) : Int) := ⟨2 ^ (64 - k), by rw [← Int.pow_add, show k + (64 - k) = 64 by omega]; rfl⟩
 have e1 : (((n % ((2 ^ 64 : Nat) : Int)).toNat % 2 ^ k : Nat) : Int) = n % 2 ^ k := by
  rw [Int.natCast_emod, Int.toNat_of_nonneg (Int.emod_nonneg _ (by decide))]
  rw [Int.natCast_pow]
  exact Int.emod_emod_of_dvd n hd
 have e2 : 0 ≤ n % (2 : Int) ^ k := Int.emod_nonneg _ (by have := two_pos k; omega)
 have e3 : n % (2 : Int) ^ k < 2 ^ k := Int.emod_lt_of_pos _ (by have := two_pos k; omega)
 have e4 := two_mono (show k ≤ 62 by omega)
 rw [e1]
 have : (2 : Int) ^ 62 = 4611686018427387904 := by decide
 omega
def bfr (n : Int) : Rat := Rat.divInt (n % 64 - 20) (n / 64 % 32 + 1)
theorem bfr_b (n : Int) : Qb 1 (bfr n) := by
 unfold bfr
 obtain ⟨k, hk⟩ := Int.eq_ofNat_of_zero_le (show 0 ≤ n / 64 % 32 + 1 by omega)
 rw [hk, Rat.divInt_ofNat]
 have : Bp 1 = 4294967296 := by decide
 exact mkRat_b (by omega) (by omega) (by omega)
theorem RetQ.alloc {w w' : World} {q : Rat} {e : Ending} (h : RetQ w.heap.size w q e w') (o : Obj) : RetQ w.heap.size w q e (w'.alloc o) := by
 obtain ⟨v, rfl, h1, h2⟩ := h
 exact ⟨v, rfl, h1.keep (alloc_below _ _), h2.alloc h2.size _⟩
set_option maxRecDepth 100000 in
set_option maxHeartbeats 1000000 in
theorem baseFrac (n : Int) (w : World) (h0 : -9223372036854775808 ≤ n) (h1 : n ≤ 9223372036854775807) :
    Calls Tryz.prog 23 #[.int .i64 n] w (RetQ w.heap.size w (bfr n)) := by
 obtain ⟨hR, hW, hS⟩ := pro1 w (.bool false) (.slice none 0 0) (.slice none 0 0) 38
 have H63 := Lib.hid (show bits .and .i64 n 63 = n % 64 from andMask n 6 (by omega))
 have H31 := Lib.hid (show bits .and .i64 (n / 64) 31 = n / 64 % 32 from andMask (n / 64) 5 (by omega))
 have m1 : 0 ≤ bits .and .i64 n 63 ∧ bits .and .i64 n 63 ≤ 63 := by rw [H63.out]; omega
 have m2 : 0 ≤ bits .and .i64 (n / 64) 31 ∧ bits .and .i64 (n / 64) 31 ≤ 31 := by rw [H31.out]; omega
 obtain ⟨m1a, m1b⟩ := m1
 obtain ⟨m2a, m2b⟩ := m2
 generalize hWe : w.alloc (.cells #[.bool false, .slice none 0 0, .slice none 0 0] 38 (0, 0)) = W at *
 have HWE := Lib.hid hWe
 have HWS := Lib.hid hS
 have HR := Lib.hid hR
 clear hWe hS hR
 go_enter Tryz.func23, Tryz.ntmps23
 go_wp2_with fail
 rw [HWE.out]
 rw [H63.out, H31.out]
 clear m1a m1b m2a m2b
 refine (rFNew (n % 64 - 20) (n / 64 % 32 + 1) W (by omega) (by omega) (by omega) (by omega) (by omega)).mono ?_
 rintro e w2 ⟨v, rfl, h, hb⟩
 obtain ⟨qb, qa, qn, qc, ra, rn, rc, rfl⟩ := h.form
 have HI := Lib.hid h
 have HBW := Lib.hid hb
 obtain ⟨⟨rc0, rc1, rc2⟩, rf0, rf1, rf2⟩ := HR.out.keep hb
 have hlt := cell_lt rc0
 dsimp only at hlt
 clear h hb
 go_wp2_with fail
 have hbw := hW.trans (HBW.out.mono (by have := HWS.out; omega))
 refine bodyPost_ret (v := .agg #[.bool qb, .slice qa qn qc, .slice ra rn rc]) (by simp [results, Tryz.results23, go_sem, rc0, rc1, rc2, hlt]) rfl ?_
 exact RetQ.alloc (fin_q (base := w.heap.size + 1) (HI.out.mono (by rw [HWS.out]; omega)) (by omega) hbw (by omega)) _
end Go.Proofs.YthcbjhmdpehooaaGreat.Nt
