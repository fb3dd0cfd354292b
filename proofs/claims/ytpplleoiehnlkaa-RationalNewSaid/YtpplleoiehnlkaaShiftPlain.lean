/-
  Plain mathematics of shifts of rows of digits by fewer than 32 places.
-/
import Derived.Test.YtpplleoiehnlkaaNum
import Derived.Laws.BitsAllLaws
namespace Go.Proofs.Ytpplleoiehnlkaa.Nt
set_option linter.unusedVariables false

theorem pow32 {s : Nat} (hs : s < 32) : (2 : Int) ^ s * 2 ^ (32 - s) = 4294967296 := by
  rw [← Int.pow_add, show s + (32 - s) = 32 by omega]; rfl
theorem pow_bd {s : Nat} (hs : s < 32) : (1 : Int) ≤ 2 ^ s ∧ (2 : Int) ^ s ≤ 2147483648 := by
  refine ⟨two_pos s, ?_⟩
  have := two_mono (show s ≤ 31 by omega)
  simpa using this
theorem pow_bd2 {s : Nat} (hs : s < 32) : (2 : Int) ≤ 2 ^ (32 - s) ∧ (2 : Int) ^ (32 - s) ≤ 4294967296 := by
  refine ⟨?_, ?_⟩
  · have := two_mono (show 1 ≤ 32 - s by omega)
    simpa using this
  · have := two_mono (show 32 - s ≤ 32 by omega)
    simpa using this
/-- d << s, as a digit: a multiple of 2^s -/
theorem emod_mul {P : Int} (d R : Int) (h : 0 < P) : d * P % (R * P) = d % R * P := by
  rw [Int.mul_comm d P, Int.mul_comm R P, Int.mul_emod_mul_of_pos _ _ h, Int.mul_comm]
theorem shl_mod {s : Nat} (hs : s < 32) (d : Int) : d * 2 ^ s % 4294967296 = (d % 2 ^ (32 - s)) * 2 ^ s := by
  rw [← pow32 hs, Int.mul_comm (2 ^ s), emod_mul]
  exact Int.lt_of_lt_of_le (by decide) (two_pos s)
theorem shl_div {s : Nat} (hs : s < 32) (d : Int) : d * 2 ^ s / 4294967296 = d / 2 ^ (32 - s) := by
  rw [← pow32 hs, Int.mul_comm (2 ^ s), Int.mul_ediv_mul_of_pos_left]
  exact Int.lt_of_lt_of_le (by decide) (two_pos s)
theorem shl_or32 {s : Nat} (hs : s < 32) (d c : Int) (hc : 0 ≤ c ∧ c < 2 ^ s) : bits .or .u32 (d * 2 ^ s % 4294967296) c = d * 2 ^ s % 4294967296 + c := by
  rw [shl_mod hs]
  have h1 := pow_bd hs
  have h2 := pow_bd2 hs
  have m0 : 0 ≤ d % 2 ^ (32 - s) := Int.emod_nonneg _ (by omega)
  have m1 : d % 2 ^ (32 - s) < 2 ^ (32 - s) := Int.emod_lt_of_pos _ (by omega)
  have hP : (2 : Int) ^ s = ((2 ^ s : Nat) : Int) := by simp
  have hR : (2 : Int) ^ (32 - s) = ((2 ^ (32 - s) : Nat) : Int) := by simp
  generalize d % 2 ^ (32 - s) = m at *
  obtain ⟨a, rfl⟩ := Int.eq_ofNat_of_zero_le m0
  obtain ⟨b, rfl⟩ := Int.eq_ofNat_of_zero_le hc.1
  rw [hP] at hc ⊢
  rw [hR] at m1
  have e1 : a * 2 ^ s < 4294967296 := by
    have : a * 2 ^ s < 2 ^ (32 - s) * 2 ^ s := Nat.mul_lt_mul_of_pos_right (by omega) (by have := Nat.two_pow_pos s; omega)
    have q2 : 2 ^ s * 2 ^ (32 - s) = 4294967296 := by rw [← Nat.pow_add, show s + (32 - s) = 32 by omega]
    rw [Nat.mul_comm] at q2
    omega
  have e2 : ((a : Int) * ((2 ^ s : Nat) : Int)) = ((a * 2 ^ s : Nat) : Int) := (Int.natCast_mul a (2 ^ s)).symm
  rw [e2, u32_or_nat _ _ e1 (by omega)]
  have := Nat.shiftLeft_add_eq_or_of_lt (i := s) (b := b) (by omega) a
  rw [Nat.shiftLeft_eq] at this
  rw [← this]
  omega
/-- a row shifted left -/
def shlL (P : Int) : List Int → Int → List Int
  | [], _ => []
  | d :: a, c => (d * P % 4294967296 + c) :: shlL P a (d * P / 4294967296)
def shlC (P : Int) : List Int → Int → Int
  | [], c => c
  | d :: a, _ => shlC P a (d * P / 4294967296)
theorem shlL_len (P : Int) (a : List Int) (c : Int) : (shlL P a c).length = a.length := by
  induction a generalizing c with
  | nil => rfl
  | cons d a ih => simp [shlL, ih]
theorem shlL_N (P : Int) (a : List Int) (c : Int) : N (shlL P a c) + Bp a.length * shlC P a c = N a * P + c := by
  induction a generalizing c with
  | nil => simp [shlL, shlC, N, Bp]
  | cons d a ih =>
    show d * P % 4294967296 + c + 4294967296 * N (shlL P a (d * P / 4294967296)) + 4294967296 * Bp a.length * shlC P a (d * P / 4294967296) = (d + 4294967296 * N a) * P + c
    have := ih (d * P / 4294967296)
    rw [Int.add_mul, Int.mul_assoc, Int.mul_assoc]
    omega
theorem shl_digit {s : Nat} (hs : s < 32) (d c : Int) (hd : 0 ≤ d ∧ d < 4294967296) (hc : 0 ≤ c ∧ c < 2 ^ s) :
    (0 ≤ d * 2 ^ s % 4294967296 + c ∧ d * 2 ^ s % 4294967296 + c < 4294967296) ∧ 0 ≤ d * 2 ^ s / 4294967296 ∧ d * 2 ^ s / 4294967296 < 2 ^ s := by
  have h1 := pow_bd hs
  have h2 := pow_bd2 hs
  have m0 : 0 ≤ d % 2 ^ (32 - s) := Int.emod_nonneg _ (by omega)
  have m1 : d % 2 ^ (32 - s) < 2 ^ (32 - s) := Int.emod_lt_of_pos _ (by omega)
  refine ⟨?_, ?_, ?_⟩
  · rw [shl_mod hs]
    generalize d % 2 ^ (32 - s) = m at *
    have a1 := Int.mul_nonneg m0 (show 0 ≤ (2 : Int) ^ s by omega)
    have a2 := Int.mul_le_mul_of_nonneg_right (show m + 1 ≤ 2 ^ (32 - s) by omega) (show 0 ≤ (2 : Int) ^ s by omega)
    rw [Int.mul_comm (2 ^ (32 - s)), pow32 hs, Int.add_mul, Int.one_mul] at a2
    omega
  · exact Int.ediv_nonneg (Int.mul_nonneg hd.1 (by omega)) (by decide)
  · apply Int.ediv_lt_of_lt_mul (by decide)
    have := Int.mul_lt_mul_of_pos_right hd.2 (show 0 < (2 : Int) ^ s by omega)
    rw [Int.mul_comm (2 ^ s)]
    exact this
theorem shlL_ds {s : Nat} (hs : s < 32) (a : List Int) (c : Int) (ha : Ds a) (hc : 0 ≤ c ∧ c < 2 ^ s) : Ds (shlL (2 ^ s) a c) ∧ 0 ≤ shlC (2 ^ s) a c ∧ shlC (2 ^ s) a c < 2 ^ s := by
  induction a generalizing c with
  | nil => exact ⟨Ds.nil, hc⟩
  | cons d a ih =>
    have h := shl_digit hs d c ha.head hc
    have i := ih (d * 2 ^ s / 4294967296) ha.tail h.2
    exact ⟨Ds.cons h.1 i.1, i.2⟩
theorem shlL_step (P : Int) (x : List Int) (k : Nat) (c : Int) (h : k < x.length) :
    shlL P (x.drop k) c = (x[k]?.getD 0 * P % 4294967296 + c) :: shlL P (x.drop (k + 1)) (x[k]?.getD 0 * P / 4294967296) ∧ shlC P (x.drop k) c = shlC P (x.drop (k + 1)) (x[k]?.getD 0 * P / 4294967296) := by
  rw [drop_cons h, shlL, shlC]
  exact ⟨rfl, rfl⟩

/-- a row shifted right -/
def shrL (P R : Int) : List Int → List Int
  | [] => []
  | [d] => [d / P]
  | d :: e :: a => (d / P + (e * R) % 4294967296) :: shrL P R (e :: a)
theorem shrL_len (P R : Int) (a : List Int) : (shrL P R a).length = a.length := by
  induction a with
  | nil => rfl
  | cons d a ih =>
    rcases a with _ | ⟨e, a⟩
    · rfl
    · simp [shrL] at ih ⊢; exact ih
theorem shrL_N {s : Nat} (hs : s < 32) (a : List Int) : N (shrL (2 ^ s) (2 ^ (32 - s)) a) = N a / 2 ^ s := by
  have h1 := pow_bd hs
  have h2 := pow_bd2 hs
  have h3 := pow32 hs
  induction a with
  | nil => simp [shrL, N]
  | cons d a ih =>
    rcases a with _ | ⟨e, a⟩
    · simp [shrL, N]
    · show d / 2 ^ s + (e * 2 ^ (32 - s)) % 4294967296 + 4294967296 * N (shrL (2 ^ s) (2 ^ (32 - s)) (e :: a)) = (d + 4294967296 * N (e :: a)) / 2 ^ s
      rw [ih]
      have em : e * 2 ^ (32 - s) % 4294967296 = (N (e :: a) % 2 ^ s) * 2 ^ (32 - s) := by
        conv => lhs; rw [← h3]
        rw [emod_mul _ _ (show (0 : Int) < 2 ^ (32 - s) by omega)]
        congr 1
        show e % 2 ^ s = (e + 4294967296 * N a) % 2 ^ s
        rw [← h3, Int.mul_assoc, Int.add_mul_emod_self_left]
      rw [em]
      generalize N (e :: a) = M
      have k : (d + 4294967296 * M) / 2 ^ s = d / 2 ^ s + 2 ^ (32 - s) * M := by
        rw [← h3, Int.mul_assoc, Int.add_mul_ediv_left _ _ (by omega)]
      have q := Int.mul_ediv_add_emod M (2 ^ s)
      rw [k]
      generalize M / 2 ^ s = A at *
      generalize M % 2 ^ s = C at *
      have : (2 : Int) ^ (32 - s) * M = 4294967296 * A + C * 2 ^ (32 - s) := by
        rw [← q, Int.mul_add, ← Int.mul_assoc, Int.mul_comm (2 ^ (32 - s)) (2 ^ s), h3, Int.mul_comm _ C]
      rw [this]
      omega
end Go.Proofs.Ytpplleoiehnlkaa.Nt
