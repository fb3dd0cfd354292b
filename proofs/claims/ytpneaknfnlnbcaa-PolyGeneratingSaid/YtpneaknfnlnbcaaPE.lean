/-
  The distribution of the number of successes, in plain terms: the sums over all sets are the coefficients of the product.
-/
import Derived.Test.YtpneaknfnlnbcaaPA
namespace Go.Proofs.Ytpneaknfnlnbcaa.Gx
open Go Go.RowKit Tw B Nt
set_option linter.unusedVariables false
set_option linter.unusedSimpArgs false
set_option maxHeartbeats 4000000
set_option maxRecDepth 20000
/-- the product of the first n polynomials (1 - b i) + b i x -/
def gN (b : Nat → Rat) : Nat → QL
  | 0 => [1]
  | n + 1 => mulQ (gN b n) [1 - b n, b n]
/-- the weight of a set among the first n trials -/
def wN (b : Nat → Rat) (s : Nat) : Nat → Rat
  | 0 => 1
  | i + 1 => wN b s i * (if s / 2 ^ i % 2 = 1 then b i else 1 - b i)
/-- the number of successes of a set -/
def cN (s : Nat) : Nat → Nat
  | 0 => 0
  | i + 1 => cN s i + (if s / 2 ^ i % 2 = 1 then 1 else 0)
/-- the sum of the weights of the first t sets with k successes -/
def sN (b : Nat → Rat) (n k : Nat) : Nat → Rat
  | 0 => 0
  | t + 1 => sN b n k t + (if cN t n = k then wN b t n else 0)
/-- the sum of the first n probabilities -/
def uN (b : Nat → Rat) : Nat → Rat
  | 0 => 0
  | n + 1 => uN b n + b n
theorem gN_s (b : Nat → Rat) (n : Nat) : gN b (n + 1) = mulQ (gN b n) [1 - b n, b n] := rfl
theorem wN_s (b : Nat → Rat) (s i : Nat) : wN b s (i + 1) = wN b s i * (if s / 2 ^ i % 2 = 1 then b i else 1 - b i) := rfl
theorem cN_s (s i : Nat) : cN s (i + 1) = cN s i + (if s / 2 ^ i % 2 = 1 then 1 else 0) := rfl
theorem sN_s (b : Nat → Rat) (n k t : Nat) : sN b n k (t + 1) = sN b n k t + (if cN t n = k then wN b t n else 0) := rfl
theorem sN_0 (b : Nat → Rat) (n k : Nat) : sN b n k 0 = 0 := rfl
theorem uN_s (b : Nat → Rat) (n : Nat) : uN b (n + 1) = uN b n + b n := rfl
theorem cN_le (s : Nat) : ∀ n, cN s n ≤ n
  | 0 => Nat.le_refl _
  | n + 1 => by
    have := cN_le s n
    rw [cN_s]
    split <;> omega
theorem gN_len (b : Nat → Rat) : ∀ n, (gN b n).length = n + 1
  | 0 => rfl
  | n + 1 => by
    have ih := gN_len b n
    rw [gN_s]
    rw [len_mul _ _ (fun h => by rw [h] at ih; simp at ih) (by simp), ih]
    rfl
theorem co_lin (G : QL) (c d : Rat) (k : Nat) : co (mulQ G [c, d]) k = c * co G k + (if k = 0 then 0 else d * co G (k - 1)) := by
  rw [mul_comm' G [c, d] k]
  cases k with
  | zero => rw [if_pos rfl, Rat.add_zero]; rw [← co_sc]; show co (addQ (scQ c G) (0 :: mulQ [d] G)) 0 = _; rw [co_add, co_zero, Rat.add_zero]
  | succ k =>
    rw [if_neg (by omega)]
    rw [co_mul_succ, mul_one_c d G k, co_sc]
    rfl
theorem bit_lo {s n i : Nat} (h : i < n) : (2 ^ n + s) / 2 ^ i % 2 = s / 2 ^ i % 2 := by
  obtain ⟨d, rfl⟩ : ∃ d, n = i + 1 + d := ⟨n - i - 1, by omega⟩
  have e : 2 ^ (i + 1 + d) + s = s + 2 ^ i * (2 * 2 ^ d) := by
    rw [Nat.add_comm, Nat.pow_add, Nat.pow_add, Nat.pow_one, Nat.mul_assoc]
  rw [e, Nat.add_mul_div_left _ _ (Nat.pow_pos (by decide)), Nat.add_mul_mod_self_left]
theorem bit_lt {s n : Nat} (h : s < 2 ^ n) : ¬ s / 2 ^ n % 2 = 1 := by
  rw [Nat.div_eq_of_lt h]; decide
theorem bit_hi {s n : Nat} (h : s < 2 ^ n) : (2 ^ n + s) / 2 ^ n % 2 = 1 := by
  rw [Nat.add_comm, Nat.add_div_right _ (Nat.pow_pos (by decide)), Nat.div_eq_of_lt h]
theorem cN_add (s n : Nat) : ∀ i, i ≤ n → cN (2 ^ n + s) i = cN s i
  | 0, _ => rfl
  | i + 1, h => by rw [cN_s, cN_s, cN_add s n i (by omega), bit_lo (by omega)]
theorem wN_add (b : Nat → Rat) (s n : Nat) : ∀ i, i ≤ n → wN b (2 ^ n + s) i = wN b s i
  | 0, _ => rfl
  | i + 1, h => by rw [wN_s, wN_s, wN_add b s n i (by omega), bit_lo (by omega)]
theorem sN_lo (b : Nat → Rat) (n k : Nat) : ∀ t, t ≤ 2 ^ n → sN b (n + 1) k t = (1 - b n) * sN b n k t
  | 0, _ => by rw [sN_0, sN_0, Rat.mul_zero]
  | t + 1, h => by
    rw [sN_s, sN_s, sN_lo b n k t (by omega), cN_s, wN_s, if_neg (bit_lt (by omega)), if_neg (bit_lt (by omega)), Nat.add_zero, Rat.mul_add]
    split
    · rw [Rat.mul_comm (wN b t n)]
    · rw [Rat.mul_zero]
theorem sN_hi (b : Nat → Rat) (n k : Nat) : ∀ t, t ≤ 2 ^ n → sN b (n + 1) k (2 ^ n + t) = (1 - b n) * sN b n k (2 ^ n) + (if k = 0 then 0 else b n * sN b n (k - 1) t)
  | 0, _ => by
    show sN b (n + 1) k (2 ^ n) = _
    rw [sN_lo b n k _ (Nat.le_refl _), sN_0, Rat.mul_zero, ite_self, Rat.add_zero]
  | t + 1, h => by
    rw [← Nat.add_assoc, sN_s, sN_s, sN_hi b n k t (by omega), cN_s, wN_s, if_pos (bit_hi (by omega)), if_pos (bit_hi (by omega)), cN_add t n n (Nat.le_refl _), wN_add b t n n (Nat.le_refl _), Rat.add_assoc]
    congr 1
    by_cases hk : k = 0
    · rw [if_pos hk, if_pos hk, if_neg (by omega), Rat.add_zero]
    · rw [if_neg hk, if_neg hk, Rat.mul_add]
      congr 1
      by_cases hc : cN t n = k - 1
      · rw [if_pos hc, if_pos (by omega), Rat.mul_comm]
      · rw [if_neg hc, if_neg (by omega), Rat.mul_zero]
theorem sN_all (b : Nat → Rat) : ∀ n k, sN b n k (2 ^ n) = co (gN b n) k
  | 0, k => by
    show 0 + (if 0 = k then 1 else 0) = co [1] k
    rw [Rat.zero_add]
    cases k with
    | zero => rfl
    | succ k => rw [if_neg (by omega), co_ge (by simp)]
  | n + 1, k => by
    have e : 2 ^ (n + 1) = 2 ^ n + 2 ^ n := by rw [Nat.pow_succ]; omega
    rw [e, sN_hi b n k _ (Nat.le_refl _), sN_all b n k]
    rw [gN_s, co_lin]
    congr 1
    split
    · rfl
    · rw [sN_all b n (k - 1)]
theorem ev_two (c d x : Rat) : evQ [c, d] x = d * x + c := by
  rw [ev_cons, ev_cons]
  show (0 * x + d) * x + c = _
  rw [Rat.zero_mul, Rat.zero_add]
theorem one_of (p : Rat) : p * 1 + (1 - p) = 1 := by rw [Rat.mul_one, Rat.sub_eq_add_neg, Rat.add_comm 1, ← Rat.add_assoc, Rat.add_neg_cancel, Rat.zero_add]
theorem gN_one (b : Nat → Rat) : ∀ n, evQ (gN b n) 1 = 1
  | 0 => by show 0 * 1 + 1 = (1 : Rat); rw [Rat.zero_mul, Rat.zero_add]
  | n + 1 => by rw [gN_s, ev_mul, gN_one b n, ev_two, one_of, Rat.mul_one]
theorem d_two (c d : Rat) : dQ [c, d] = [d] := by
  show [((0 + 1 : Nat) : Rat) * co [c, d] (0 + 1)] = [d]
  rw [co_succ, co_zero]
  show [(1 : Rat) * d] = _
  rw [Rat.one_mul]
theorem gN_mean (b : Nat → Rat) : ∀ n, evQ (dQ (gN b n)) 1 = uN b n
  | 0 => rfl
  | n + 1 => by
    rw [gN_s, uN_s, ev_PE 1 (d_mul _ _), ev_add, ev_mul, ev_mul, gN_mean b n, gN_one, ev_two, one_of, d_two, Rat.mul_one, Rat.one_mul]
    congr 1
    show 0 * 1 + b n = b n
    rw [Rat.zero_mul, Rat.zero_add]
end Go.Proofs.Ytpneaknfnlnbcaa.Gx
