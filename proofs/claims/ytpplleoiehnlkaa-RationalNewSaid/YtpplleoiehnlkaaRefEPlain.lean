/-
  Plain mathematics of division bit by bit.
-/
import Derived.Test.YtpplleoiehnlkaaRefD
namespace Go.Proofs.Ytpplleoiehnlkaa.Nt
open Go.ChangeShapes Go.WideShapes Go.ChangeAt Go.RowKit B
set_option linter.unusedVariables false

theorem pow_split (m s : Nat) : (2 : Int) ^ (32 * m + s) = Bp m * 2 ^ s := by rw [Int.pow_add, Bp_pow]
/-- a digit of a number -/
theorem N_digit {l : List Int} (h : Ds l) (m : Nat) : N l / Bp m % 4294967296 = l[m]?.getD 0 := by
  have hB := Bp_pos m
  rcases Nat.lt_or_ge m l.length with hm | hm
  · have e := take_drop_N l m (by omega)
    have h1 := N_nonneg (h.take m)
    have h2 := N_lt (h.take m)
    have h3 : (l.take m).length = m := by simp; omega
    rw [h3] at h2
    have q : N l / Bp m = N (l.drop m) := by
      rw [e, Int.add_mul_ediv_left _ _ (by omega), Int.ediv_eq_zero_of_lt h1 h2, Int.zero_add]
    have hx := h.at m
    rw [q, N_drop hm]; omega
  · have h1 := N_nonneg h
    have h2 := N_lt h
    have h3 := Bp_mono hm
    rw [Int.ediv_eq_zero_of_lt h1 (by omega), List.getElem?_eq_none hm]; rfl
theorem N_set {l : List Int} {m : Nat} (h : m < l.length) (x : Int) : N (l.set m x) = N l + Bp m * (x - l[m]?.getD 0) := by
  have e1 := take_drop_N l m (by omega)
  have e2 := take_drop_N (l.set m x) m (by simp; omega)
  have hs : (l.set m x).take m = l.take m := by
    rw [List.take_set_of_le (Nat.le_refl _)]
  have hd : N ((l.set m x).drop m) = x + 4294967296 * N (l.drop (m + 1)) := by
    rw [N_drop (by simp; omega)]
    congr 1
    · simp [h]
    · rw [List.drop_set_of_lt (by omega)]
  rw [e2, hs, hd, e1, N_drop h, Int.mul_sub]
  simp only [Int.mul_add]
  omega
theorem Bp_ne (m : Nat) : Bp m ≠ 0 := by have := Bp_pos m; omega
/-- the digit in which the next bit is set has no bit there or below -/
theorem digit_div {l : List Int} (h : Ds l) (m s : Nat) (hs : s < 32) (Q : Int) (e : N l = Q * 2 ^ (32 * m + s + 1)) : ∃ t, l[m]?.getD 0 = t * 2 ^ (s + 1) := by
  have e2 : N l / Bp m = Q * 2 ^ (s + 1) := by
    rw [e, Nat.add_assoc, pow_split, Int.mul_left_comm, Int.mul_ediv_cancel_left _ (Bp_ne m)]
  have e3 := N_digit h m
  rw [e2] at e3
  obtain ⟨r, hr⟩ : ∃ r, (4294967296 : Int) = r * 2 ^ (s + 1) := ⟨2 ^ (31 - s), by rw [← Int.pow_add, show 31 - s + (s + 1) = 32 by omega]; rfl⟩
  refine ⟨Q - r * (Q * 2 ^ (s + 1) / 4294967296), ?_⟩
  rw [← e3, Int.emod_def, Int.sub_mul]
  congr 1
  conv => lhs; arg 1; rw [hr]
  rw [Int.mul_assoc, Int.mul_assoc, Int.mul_comm (2 ^ (s + 1)) (_ / _)]
theorem or_bit (d : Int) (s : Nat) (hd : 0 ≤ d ∧ d < 4294967296) (hs : s < 32) (t : Int) (e : d = t * 2 ^ (s + 1)) :
    bits .or .u32 d (2 ^ s) = d + 2 ^ s ∧ d + 2 ^ s < 4294967296 := by
  have hp : (0 : Int) < 2 ^ (s + 1) := by have := two_pos (s + 1); omega
  have ht0 : 0 ≤ t := by
    rcases Int.lt_or_le t 0 with h | h
    · have := Int.mul_neg_of_neg_of_pos h hp; omega
    · exact h
  obtain ⟨n, rfl⟩ := Int.eq_ofNat_of_zero_le ht0
  have ed : d = ((n * 2 ^ (s + 1) : Nat) : Int) := by rw [e]; simp
  have hs2 : (2 : Int) ^ s = ((2 ^ s : Nat) : Int) := by simp
  have hp2 : 2 ^ s < 2 ^ (s + 1) := Nat.pow_lt_pow_right (by omega) (by omega)
  have hp3 : 2 ^ (s + 1) ≤ 2 ^ 32 := Nat.pow_le_pow_right (by omega) (by omega)
  have hm : n * 2 ^ (s + 1) < 4294967296 := by omega
  have hr : (2 : Nat) ^ 32 = 2 ^ (31 - s) * 2 ^ (s + 1) := by rw [← Nat.pow_add, show 31 - s + (s + 1) = 32 by omega]
  have hlt : n * 2 ^ (s + 1) < 2 ^ (31 - s) * 2 ^ (s + 1) := by rw [← hr]; omega
  have hn : n < 2 ^ (31 - s) := Nat.lt_of_mul_lt_mul_right hlt
  have h4 : (n + 1) * 2 ^ (s + 1) ≤ 2 ^ (31 - s) * 2 ^ (s + 1) := Nat.mul_le_mul_right _ hn
  rw [← hr, Nat.add_mul, Nat.one_mul] at h4
  have := Nat.shiftLeft_add_eq_or_of_lt (i := s + 1) (b := 2 ^ s) hp2 n
  rw [Nat.shiftLeft_eq] at this
  clear e hd hr hlt hn ht0 hp
  rw [hs2, ed]
  clear ed hs2
  generalize n * 2 ^ (s + 1) = P at *
  generalize 2 ^ (s + 1) = R at *
  generalize 2 ^ s = p at *
  rw [u32_or_nat _ _ (by omega) (by omega), ← this]
  omega
theorem and_one (x : Int) (h : 0 ≤ x ∧ x < 4294967296) : bits .and .u32 x 1 = x % 2 := by
  obtain ⟨n, rfl⟩ := Int.eq_ofNat_of_zero_le h.1
  have : bits .and .u32 (n : Int) ((1 : Nat) : Int) = ((n &&& 1 : Nat) : Int) := u32_and_nat _ _ (by omega) (by omega)
  rw [show (1 : Int) = ((1 : Nat) : Int) by rfl, this, Nat.and_one_is_mod]; omega
/-- the bit of a number -/
theorem N_bit {l : List Int} (h : Ds l) (m s : Nat) (hs : s < 32) : l[m]?.getD 0 / 2 ^ s % 2 = N l / 2 ^ (32 * m + s) % 2 := by
  rw [pow_split, ← Int.ediv_ediv_of_nonneg (by have := Bp_pos m; omega), ← N_digit h m]
  generalize N l / Bp m = q
  obtain ⟨r, hr⟩ : ∃ r, (4294967296 : Int) = 2 ^ s * (2 * r) := ⟨2 ^ (31 - s), by
    rw [← Int.mul_assoc, ← Int.pow_succ, ← Int.pow_add, show s + 1 + (31 - s) = 32 by omega]; rfl⟩
  have hp := two_pos s
  have e := Int.emod_add_mul_ediv q 4294967296
  generalize q / 4294967296 = u at *
  generalize q % 4294967296 = v at *
  subst e
  rw [hr, Int.mul_assoc, Int.add_mul_ediv_left _ _ (by omega), Int.mul_assoc]
  omega
/-- one step of the division -/
theorem divBit_step (Y r : Int) (hY : 0 < Y) (T b : Int) (hb : 0 ≤ b ∧ b ≤ 1) (hr : r = T % Y) :
    (2 * T + b) / Y = 2 * (T / Y) + (if Y ≤ 2 * r + b then 1 else 0) ∧ (2 * T + b) % Y = if Y ≤ 2 * r + b then 2 * r + b - Y else 2 * r + b := by
  have e := Int.emod_add_mul_ediv T Y
  have h0 := Int.emod_nonneg T (show Y ≠ 0 by omega)
  have h1 := Int.emod_lt_of_pos T hY
  rw [← hr] at e h0 h1
  generalize T / Y = Q at *
  clear hr
  have e2 : 2 * T + b = (2 * r + b) + Y * (2 * Q) := by rw [← e, Int.mul_left_comm]; omega
  rw [e2]
  rw [Int.add_mul_ediv_left _ _ (by omega), Int.add_mul_emod_self_left]
  split
  · have e3 : 2 * r + b = (2 * r + b - Y) + Y * 1 := by omega
    refine ⟨?_, ?_⟩
    · rw [e3, Int.add_mul_ediv_left _ _ (by omega), Int.ediv_eq_zero_of_lt (by omega) (by omega)]; omega
    · rw [e3, Int.add_mul_emod_self_left, Int.emod_eq_of_lt (by omega) (by omega)]; omega
  · rw [Int.ediv_eq_zero_of_lt (by omega) (by omega), Int.emod_eq_of_lt (by omega) (by omega)]; omega
theorem half_pow (X : Int) (j : Nat) : X / 2 ^ j = 2 * (X / 2 ^ (j + 1)) + X / 2 ^ j % 2 := by
  rw [Int.pow_succ, ← Int.ediv_ediv_of_nonneg (by have := two_pos j; omega)]
  omega
end Go.Proofs.Ytpplleoiehnlkaa.Nt
