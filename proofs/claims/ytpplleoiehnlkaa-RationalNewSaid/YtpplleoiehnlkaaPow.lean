/-
  Contract of bignat.Pow.
-/
import Derived.Test.YtpplleoiehnlkaaLawKit
namespace Go.Proofs.Ytpplleoiehnlkaa.Nt
open Go.ChangeShapes Go.WideShapes Go.ChangeAt Go.RowKit B
set_option linter.unusedVariables false

/-- the error of a power, and its value -/
def powE (x n : Int) : Int := if n < 0 then 1 else if 65536 < blen (x ^ n.toNat) then 4 else 0
def powX (x n : Int) : Int := if n < 0 then 0 else if 65536 < blen (x ^ n.toNat) then 0 else x ^ n.toNat
def RetPow (base : Nat) (w : World) (x n : Int) (e : Ending) (w' : World) : Prop :=
  ∃ v, e = .returned (.tuple #[v, .int .i64 (powE x n)]) ∧ IsNew base w' v (powX x n) ∧ Below base w w'

theorem and1_i64 (m : Int) (h0 : 0 ≤ m) (h1 : m < 9223372036854775808) : bits .and .i64 m 1 = m % 2 := by
  obtain ⟨n, rfl⟩ := Int.eq_ofNat_of_zero_le h0
  show IntKind.i64.wrap ((BitVec.ofInt 64 (n : Int) &&& BitVec.ofInt 64 1).toNat : Int) = _
  have e1 : (BitVec.ofInt 64 1).toNat = 1 := by decide
  rw [BitVec.toNat_and, ofInt_u64 n (by omega), e1, Nat.and_one_is_mod]
  have : IntKind.i64.wrap ((n % 2 : Nat) : Int) = ((n % 2 : Nat) : Int) := IntWalk.i64_in _ (by omega)
  rw [this]; omega
theorem blen_big {x : Int} {b : Nat} (h : (2 : Int) ^ b ≤ x) : b < blen x := by
  have hp := two_pos b
  have s := blen_spec (show 0 < x by omega)
  rcases Nat.lt_or_ge b (blen x) with h1 | h1
  · exact h1
  · exfalso
    have := two_mono h1
    omega
theorem pow_pos' {x : Int} (hx : 1 ≤ x) (n : Nat) : 1 ≤ x ^ n := by
  induction n with
  | zero => simp
  | succ n ih =>
    rw [Int.pow_succ]
    have := Int.mul_le_mul ih hx (by omega) (by omega)
    omega
theorem pow_le_pow {x y : Int} (hx : 0 ≤ x) (h : x ≤ y) (n : Nat) : x ^ n ≤ y ^ n := by
  induction n with
  | zero => simp
  | succ n ih =>
    rw [Int.pow_succ, Int.pow_succ]
    exact Int.mul_le_mul ih h hx (Int.pow_nonneg (by omega))
theorem pow_mono {x : Int} (hx : 1 ≤ x) {m n : Nat} (h : m ≤ n) : x ^ m ≤ x ^ n := by
  obtain ⟨k, rfl⟩ := Nat.exists_eq_add_of_le h
  rw [Int.pow_add]
  have h1 := pow_pos' hx m
  have h2 := Int.mul_le_mul_of_nonneg_left (pow_pos' hx k) (show 0 ≤ x ^ m by omega)
  omega
/-- where the early test says 'too large', it is -/
theorem pow_large {x : Int} (hx : 2 ≤ x) {n : Nat} (hn : 1 ≤ n) (h : 65536 ≤ n ∨ 65536 < blen x ∨ 65536 ≤ n * (blen x - 1)) : 65536 < blen (x ^ n) := by
  have s := blen_spec (show 0 < x by omega)
  apply blen_big
  rcases h with h | h | h
  · exact Int.le_trans (two_mono h) (pow_le_pow (by omega) hx n)
  · have h1 := two_mono (show 65536 ≤ blen x - 1 by omega)
    have h2 := pow_mono (show 1 ≤ x by omega) hn
    rw [Int.pow_one] at h2
    exact Int.le_trans h1 (Int.le_trans s.1 h2)
  · have h1 := two_mono h
    have h2 := pow_le_pow (Int.pow_nonneg (by omega)) s.1 n
    rw [← Int.pow_mul, Nat.mul_comm] at h2
    exact Int.le_trans h1 h2
theorem pow_small {x : Int} (hx : 2 ≤ x) {n : Nat} (h1 : n < 65536) (h2 : blen x ≤ 65536) (h3 : n * (blen x - 1) < 65536) : x ^ n < Bp 4096 ∧ x < Bp 4096 := by
  have s := blen_spec (show 0 < x by omega)
  rw [Bp_pow]
  refine ⟨?_, ?_⟩
  · rcases Nat.eq_zero_or_pos n with h0 | h0
    · subst h0
      have := two_mono (show 1 ≤ 32 * 4096 by omega)
      simp only [Int.pow_zero]
      omega
    · have a := Int.lt_of_le_of_lt (pow_le_pow (x := x) (y := 2 ^ blen x - 1) (by omega) (by omega) n) (show ((2 : Int) ^ blen x - 1) ^ n < (2 ^ blen x) ^ n from by
        have p := two_pos (blen x)
        obtain ⟨m, rfl⟩ : ∃ m, n = m + 1 := ⟨n - 1, by omega⟩
        rw [Int.pow_succ, Int.pow_succ]
        have q1 := pow_le_pow (x := 2 ^ blen x - 1) (y := 2 ^ blen x) (by omega) (by omega) m
        have q2 := pow_pos' (x := 2 ^ blen x) (by omega) m
        have q3 := Int.mul_le_mul_of_nonneg_right q1 (show (0 : Int) ≤ 2 ^ blen x - 1 by omega)
        rw [Int.mul_sub ((2 ^ blen x) ^ m), Int.mul_one] at q3
        omega)
      rw [← Int.pow_mul] at a
      have e : blen x * n ≤ 32 * 4096 := by
        have : blen x * n = n * (blen x - 1) + n := by
          obtain ⟨t, ht⟩ : ∃ t, blen x = t + 1 := ⟨blen x - 1, by omega⟩
          rw [ht, Nat.add_sub_cancel, Nat.mul_comm, Nat.mul_add, Nat.mul_one]
        omega
      exact Int.lt_of_lt_of_le a (two_mono e)
  · exact Int.lt_of_lt_of_le s.2.1 (two_mono (by omega))
theorem blen_one {x : Int} (h0 : 0 ≤ x) : blen x = 1 ↔ x = 1 := by
  constructor
  · intro h
    rcases Int.lt_or_eq_of_le h0 with h1 | h1
    · have := blen_spec h1
      rw [h] at this
      simp at this
      omega
    · subst h1; simp [blen] at h
  · rintro rfl; decide
theorem one_pow (n : Nat) : (1 : Int) ^ n = 1 := by
  induction n with
  | zero => rfl
  | succ n ih => rw [Int.pow_succ, ih]; rfl
theorem zero_pow {n : Nat} (h : 1 ≤ n) : (0 : Int) ^ n = 0 := by
  obtain ⟨m, rfl⟩ : ∃ m, n = m + 1 := ⟨n - 1, by omega⟩
  rw [Int.pow_succ, Int.mul_zero]
/-- one more binary digit of the exponent -/
theorem pow_bit (x : Int) (n j : Nat) : x ^ (n / 2 ^ j) = x ^ (n / 2 ^ (j + 1)) * x ^ (n / 2 ^ (j + 1)) * (if (n : Int) / 2 ^ j % 2 = 1 then x else 1) := by
  have e : n / 2 ^ (j + 1) = n / 2 ^ j / 2 := by rw [Nat.pow_succ, Nat.div_div_eq_div_mul]
  have c : ((n : Int) / 2 ^ j) = ((n / 2 ^ j : Nat) : Int) := by simp
  rw [e, c]
  generalize n / 2 ^ j = t
  rcases Nat.mod_two_eq_zero_or_one t with h | h
  · rw [if_neg (by omega), Int.mul_one, ← Int.pow_add]
    congr 1; omega
  · rw [if_pos (by omega), ← Int.pow_add, ← Int.pow_succ]
    congr 1; omega

theorem pow_done {x : Int} {n : Nat} (h : blen (x ^ n) ≤ 65536) : powE x (n : Int) = 0 ∧ powX x (n : Int) = x ^ n := by
  have e : ((n : Int)).toNat = n := rfl
  rw [powE, powX, e, if_neg (by omega), if_neg (by omega), if_neg (by omega), if_neg (by omega)]
  exact ⟨rfl, rfl⟩
theorem pow_over {x : Int} {n : Nat} (h : 65536 < blen (x ^ n)) : powE x (n : Int) = 4 ∧ powX x (n : Int) = 0 := by
  have e : ((n : Int)).toNat = n := rfl
  rw [powE, powX, e, if_neg (by omega), if_pos h, if_neg (by omega), if_pos h]
  exact ⟨rfl, rfl⟩

set_option maxHeartbeats 2000000 in
theorem pow (va : Value) (c : Nat) (x n : Int) (w : World) (ha : Num w va c x) (hc : c ≤ 4294967296) (hn0 : -9223372036854775808 ≤ n) (hn1 : n ≤ 9223372036854775807) :
    Calls Try.prog 54 #[va, .int .i64 n] w (RetPow w.heap.size w x n) := by
  have HA := Lib.hid ha
  have hx0 := ha.nonneg
  clear ha
  by_cases hneg : n < 0
  · have HR := Lib.hid (show powE x n = 1 ∧ powX x n = 0 by rw [powE, powX, if_pos hneg, if_pos hneg]; exact ⟨rfl, rfl⟩)
    go_enter Try.func54, Try.ntmps54
    go_wp2_with fail
    go_ret2
    exact ⟨.slice none 0 0, by rw [HR.out.1]; rfl, by rw [HR.out.2]; exact IsNew.nil _ _, Below.refl _ _⟩
  obtain ⟨m, rfl⟩ := Int.eq_ofNat_of_zero_le (show 0 ≤ n by omega)
  have hlb : (blen x : Int) ≤ 137438953472 := by
    have h1 := HA.out.lt
    rw [Bp_pow] at h1
    have := blen_lt hx0 (32 * c) h1
    omega
  by_cases hm0 : m = 0
  · subst hm0
    have HR := Lib.hid (pow_done (x := x) (n := 0) (by rw [Int.pow_zero]; decide))
    rw [Int.pow_zero] at HR
    have hz : (((0 : Nat) : Int) == 0) = true := rfl
    go_enter Try.func54, Try.ntmps54
    go_wp2_with fail
    refine (bitLen va c x w HA.out hc).mono ?_
    rintro e w' ⟨rfl, hw'⟩
    obtain rfl := hw'
    go_wp2_with fail
    refine (fromUint64 1 w (by decide) (by decide)).mono ?_
    rintro e w1 ⟨v, rfl, hv, hb⟩
    go_wp2_with fail
    go_ret2
    exact ⟨v, by rw [HR.out.1]; rfl, by rw [HR.out.2]; exact hv, hb⟩
  have hmz : ((m : Int) == 0) = false := by rw [beq_eq_false_iff_ne]; omega
  by_cases hx1 : x = 1
  · subst hx1
    have HR := Lib.hid (pow_done (x := 1) (n := m) (by rw [one_pow]; decide))
    rw [one_pow] at HR
    go_enter Try.func54, Try.ntmps54
    go_wp2_with fail
    refine (bitLen va c 1 w HA.out hc).mono ?_
    rintro e w' ⟨rfl, hw'⟩
    obtain rfl := hw'
    rw [show ((blen 1 : Nat) : Int) = 1 by decide]
    go_wp2_with fail
    refine (fromUint64 1 w (by decide) (by decide)).mono ?_
    rintro e w1 ⟨v, rfl, hv, hb⟩
    go_wp2_with fail
    go_ret2
    exact ⟨v, by rw [HR.out.1]; rfl, by rw [HR.out.2]; exact hv, hb⟩
  by_cases hxz : x = 0
  · subst hxz
    have HR := Lib.hid (pow_done (x := 0) (n := m) (by rw [zero_pow (by omega)]; decide))
    rw [zero_pow (by omega)] at HR
    go_enter Try.func54, Try.ntmps54
    go_wp2_with fail
    refine (bitLen va c 0 w HA.out hc).mono ?_
    rintro e w' ⟨rfl, hw'⟩
    obtain rfl := hw'
    rw [show ((blen 0 : Nat) : Int) = 0 by decide]
    go_wp2_with fail
    go_ret2
    exact ⟨.slice none 0 0, by rw [HR.out.1]; rfl, by rw [HR.out.2]; exact IsNew.nil _ _, Below.refl _ _⟩
  have hx2 : 2 ≤ x := by omega
  have hb1 : ((blen x : Int) == 1) = false := by
    rw [beq_eq_false_iff_ne]; intro h; exact hx1 ((blen_one hx0).1 (by omega))
  have hb0 : ((blen x : Int) == 0) = false := by
    rw [beq_eq_false_iff_ne]; have := (blen_spec (show 0 < x by omega)).2.2; omega
  have hbp : 1 ≤ (blen x : Int) := by have := (blen_spec (show 0 < x by omega)).2.2; omega
  by_cases hlarge : 65536 ≤ m ∨ 65536 < blen x ∨ 65536 ≤ m * (blen x - 1)
  · have HR := Lib.hid (pow_over (pow_large hx2 (by omega) hlarge))
    by_cases h1 : 65536 ≤ m
    · have hd1 : decide (65536 ≤ (m : Int)) = true := by simp; omega
      go_enter Try.func54, Try.ntmps54
      go_wp2_with fail
      refine (bitLen va c x w HA.out hc).mono ?_
      rintro e w' ⟨rfl, hw'⟩
      obtain rfl := hw'
      generalize blen x = b at *
      go_wp2_with fail
      go_ret2
      exact ⟨.slice none 0 0, by rw [HR.out.1]; rfl, by rw [HR.out.2]; exact IsNew.nil _ _, Below.refl _ _⟩
    · have hd1 : decide (65536 ≤ (m : Int)) = false := by simp; omega
      by_cases h2 : 65536 < blen x
      · have hd2 : decide (65536 < (blen x : Int)) = true := by simp; omega
        go_enter Try.func54, Try.ntmps54
        go_wp2_with fail
        refine (bitLen va c x w HA.out hc).mono ?_
        rintro e w' ⟨rfl, hw'⟩
        obtain rfl := hw'
        generalize blen x = b at *
        go_wp2_with fail
        go_ret2
        exact ⟨.slice none 0 0, by rw [HR.out.1]; rfl, by rw [HR.out.2]; exact IsNew.nil _ _, Below.refl _ _⟩
      · have hd2 : decide (65536 < (blen x : Int)) = false := by simp; omega
        have hmb := mul_bd (x := (m : Int)) (y := (blen x : Int) - 1) (by omega) (by omega)
        have hmul : (65536 : Int) ≤ (m : Int) * ((blen x : Int) - 1) := by
          have h3 : 65536 ≤ m * (blen x - 1) := by omega
          obtain ⟨t, ht⟩ : ∃ t, blen x = t + 1 := ⟨blen x - 1, by omega⟩
          rw [ht, Nat.add_sub_cancel] at h3
          rw [ht]
          have : ((m : Int) * (((t + 1 : Nat) : Int) - 1)) = ((m * t : Nat) : Int) := by rw [show (((t + 1 : Nat) : Int) - 1) = (t : Int) by omega, Int.natCast_mul]
          omega
        clear hlarge
        go_enter Try.func54, Try.ntmps54
        go_wp2_with fail
        refine (bitLen va c x w HA.out hc).mono ?_
        rintro e w' ⟨rfl, hw'⟩
        obtain rfl := hw'
        generalize blen x = b at *
        have hsm : (m : Int) * ((b : Int) - 1) ≤ 4294967296 := by
          have := Int.mul_le_mul (a := (m : Int)) (b := (b : Int) - 1) (c := 65536) (d := 65536) (by omega) (by omega) (by omega) (by omega)
          omega
        go_wp2_with fail
        go_ret2
        exact ⟨.slice none 0 0, by rw [HR.out.1]; rfl, by rw [HR.out.2]; exact IsNew.nil _ _, Below.refl _ _⟩
  have h1 : m < 65536 := by omega
  have h2 : blen x ≤ 65536 := by omega
  have h3 : m * (blen x - 1) < 65536 := by omega
  have HSM := Lib.hid (pow_small hx2 h1 h2 h3)
  have hd1 : decide (65536 ≤ (m : Int)) = false := by simp; omega
  have hd2 : decide (65536 < (blen x : Int)) = false := by simp; omega
  have hmul : (m : Int) * ((blen x : Int) - 1) < 65536 ∧ 0 ≤ (m : Int) * ((blen x : Int) - 1) := by
    obtain ⟨t, ht⟩ : ∃ t, blen x = t + 1 := ⟨blen x - 1, by omega⟩
    rw [ht, Nat.add_sub_cancel] at h3
    rw [ht]
    have : ((m : Int) * (((t + 1 : Nat) : Int) - 1)) = ((m * t : Nat) : Int) := by rw [show (((t + 1 : Nat) : Int) - 1) = (t : Int) by omega, Int.natCast_mul]
    omega
  clear hlarge h2 h3
  go_enter Try.func54, Try.ntmps54
  go_wp2_with fail
  refine (bitLen va c x w HA.out hc).mono ?_
  rintro e w' ⟨rfl, hw'⟩
  obtain rfl := hw'
  generalize blen x = b at *
  obtain ⟨hmul1, hmul2⟩ := hmul
  go_wp2_with fail
  refine (fromUint64 1 w (by decide) (by decide)).mono ?_
  rintro e w1 ⟨v1, rfl, hv1, hbb1⟩
  have HV1 := Lib.hid hv1
  clear hv1
  have hmlt : (m : Int) ≤ 18446744073709551615 := by omega
  have hbl := bitLen_top (m : Int) (by omega) (by omega)
  rw [Int.toNat_natCast] at hbl
  obtain ⟨hk1, hk32, _, hk2⟩ := hbl
  have HK : Hid (m / 2 ^ Lib.bitLen m = 0) := Nat.div_eq_of_lt (by exact_mod_cast hk2)
  clear hk2
  go_wp2_with fail
  refine (Try.bits_Len (m : Int) w1 (by omega) hmlt).mono ?_
  rintro e w' ⟨rfl, hw'⟩
  obtain rfl := hw'.symm
  rw [Int.toNat_natCast]
  generalize Lib.bitLen m = k0 at *
  go_wp2_with fail
  go_loopg [7, 8] k0 (fun gk v i wr => ∃ k : Nat, k ≤ k0 ∧ k ≤ gk ∧ i = .int .i64 ((k : Int) - 1) ∧ IsNew w.heap.size wr v (x ^ (m / 2 ^ k)) ∧ Below w.heap.size w wr)
  case atStart => exact ⟨k0, Nat.le_refl _, Nat.le_refl _, rfl, by rw [HK.out, Int.pow_zero]; exact HV1.out, hbb1⟩
  case round =>
    obtain ⟨k, hk, hgk, rfl, hv, hb⟩ := hrel
    have HV := Lib.hid hv
    clear hv
    rcases k with _ | j
    · rw [Nat.pow_zero, Nat.div_one] at HV
      have HB := Lib.hid HSM.out.1
      go_wp2_with fail
      refine (bitLen _ 4096 (x ^ m) wr (HV.out.num 4096 HB.out) (by decide)).mono ?_
      rintro e w' ⟨rfl, hw'⟩
      obtain rfl := hw'
      by_cases hover : 65536 < blen (x ^ m)
      · have HR := Lib.hid (pow_over hover)
        have hd3 : decide (65536 < (blen (x ^ m) : Int)) = true := by simp; omega
        generalize blen (x ^ m) = bb at *
        go_wp2_with fail
        go_ret2
        exact ⟨.slice none 0 0, by rw [HR.out.1]; rfl, by rw [HR.out.2]; exact IsNew.nil _ _, hb⟩
      · have HR := Lib.hid (pow_done (x := x) (n := m) (by omega))
        have hd3 : decide (65536 < (blen (x ^ m) : Int)) = false := by simp; omega
        generalize blen (x ^ m) = bb at *
        go_wp2_with fail
        go_ret2
        exact ⟨_, by rw [HR.out.1]; rfl, by rw [HR.out.2]; exact HV.out, hb⟩
    · have HBIT := Lib.hid (pow_bit x m j)
      have HLE : Hid (x ^ (m / 2 ^ (j + 1)) < Bp 4096) :=
        Int.lt_of_le_of_lt (pow_mono (show 1 ≤ x by omega) (Nat.div_le_self _ _)) HSM.out.1
      have HLE2 : Hid (x ^ (m / 2 ^ (j + 1)) * x ^ (m / 2 ^ (j + 1)) < Bp 4096) := by
        rw [← Int.pow_add]
        refine Int.lt_of_le_of_lt (pow_mono (show 1 ≤ x by omega) ?_) HSM.out.1
        have : m / 2 ^ (j + 1) = m / 2 ^ j / 2 := by rw [Nat.pow_succ, Nat.div_div_eq_div_mul]
        have := Nat.div_le_self m (2 ^ j)
        omega
      have hq : (0 : Int) ≤ (m : Int) / 2 ^ j ∧ (m : Int) / 2 ^ j ≤ m := ⟨Int.ediv_nonneg (by omega) (Int.pow_nonneg (by omega)), Int.ediv_le_self _ (by omega)⟩
      have hand := and1_i64 ((m : Int) / 2 ^ j) hq.1 (by omega)
      have hj64 : j < 64 := by omega
      go_wp2_with fail
      refine (mul _ _ 4096 _ _ wr (HV.out.num 4096 HLE.out) (HV.out.num 4096 HLE.out) (by decide)).mono ?_
      rintro e w3 ⟨v3, rfl, hv3, hb3⟩
      have HV3 := Lib.hid hv3
      clear hv3
      by_cases hbit : (m : Int) / 2 ^ j % 2 = 1
      · have hbt : (bits .and .i64 ((m : Int) / 2 ^ j) 1 == 1) = true := by rw [hand, hbit]; rfl
        rw [if_pos hbit] at HBIT
        clear hand hbit
        go_wp2_with fail
        refine (mul _ _ 4294967296 _ x w3 ((HV3.out.num 4096 HLE2.out).mono (by omega)) (((HA.out.keep (hb.trans (hb3.mono hb.size))).mono hc)) (by decide)).mono ?_
        rintro e w4 ⟨v4, rfl, hv4, hb4⟩
        rw [← HBIT.out] at hv4
        have HV4 := Lib.hid hv4
        clear hv4
        go_wp2_with fail
        go_roundg j
        case measure => omega
        case rel => exact ⟨j, by omega, Nat.le_refl _, by go_num, HV4.out.mono (by have := hb.size; have := hb3.size; omega), (hb.trans (hb3.mono hb.size)).trans (hb4.mono (by have := hb.size; have := hb3.size; omega))⟩
      · have hbt : (bits .and .i64 ((m : Int) / 2 ^ j) 1 == 1) = false := by rw [hand, beq_eq_false_iff_ne]; exact hbit
        rw [if_neg hbit, Int.mul_one] at HBIT
        rw [← HBIT.out] at HV3
        clear hand hbit
        go_wp2_with fail
        go_roundg j
        case measure => omega
        case rel => exact ⟨j, by omega, Nat.le_refl _, by go_num, HV3.out.mono hb.size, hb.trans (hb3.mono hb.size)⟩
end Go.Proofs.Ytpplleoiehnlkaa.Nt
