/-
  Plain mathematics of writing a number in decimal: nine digits at a time, then turned round.
-/
import Derived.Test.YtpplleoiehnlkaaDec
namespace Go.Proofs.Ytpplleoiehnlkaa.Nt
set_option linter.unusedVariables false

theorem D10.nil : D10 [] := by
  intro d h
  cases h
theorem V10_snoc (l : List Int) (d : Int) : V10 (l ++ [d]) = V10 l + p10 l.length * d := by
  induction l with
  | nil => simp [V10, p10]
  | cons e l ih => rw [List.cons_append, V10, V10, ih, List.length_cons, p10, Int.mul_add, Int.mul_assoc]; omega
theorem D10.snoc {l : List Int} (h : D10 l) {d : Int} (hd : 0 ≤ d ∧ d < 10) : D10 (l ++ [d]) := by
  intro x hx
  rcases List.mem_append.1 hx with h1 | h1
  · exact h x h1
  · rw [List.mem_singleton.1 h1]; exact hd
theorem two_le_p10 (k : Nat) : (2 : Int) ^ k ≤ p10 k := by
  induction k with
  | zero => decide
  | succ k ih =>
    rw [Int.pow_succ, p10]
    have := two_pos k
    omega
/-- as many digits as the number bears -/
theorem p10_len {k c : Nat} {n : Int} (h : p10 k ≤ n) (hn : n < Bp c) : k ≤ 32 * c := by
  rcases Nat.lt_or_ge (32 * c) k with h1 | h1
  · exfalso
    have a := two_mono (show 32 * c ≤ k by omega)
    have b := two_le_p10 k
    rw [Bp_pow] at hn
    omega
  · exact h1
/-- one more digit -/
theorem fmt_step (R : List Int) (part X : Int) (i : Nat) (hi : i < 9) (n : Int) (h : n = V10 R + p10 R.length * (part + p10 (9 - i) * X)) :
    n = V10 (R ++ [part % 10]) + p10 (R ++ [part % 10]).length * (part / 10 + p10 (9 - (i + 1)) * X) := by
  rw [V10_snoc, List.length_append, List.length_singleton, p10, h]
  obtain ⟨m, hm⟩ : ∃ m, 9 - i = m + 1 := ⟨9 - i - 1, by omega⟩
  rw [hm, show 9 - (i + 1) = m by omega, p10]
  have e1 : part = part % 10 + 10 * (part / 10) := by omega
  have e2 : p10 R.length * (part + 10 * p10 m * X) = p10 R.length * (part % 10) + 10 * p10 R.length * (part / 10 + p10 m * X) := by
    conv => lhs; rw [e1]
    rw [Int.mul_assoc 10 (p10 m) X, Int.mul_assoc 10 (p10 R.length)]
    simp only [Int.mul_add, Int.mul_left_comm _ 10]
    omega
  rw [e2]; omega
theorem fmt_bound (R : List Int) (part X : Int) (i : Nat) (n : Int) (hR : D10 R) (hp : 0 ≤ part) (hX : 0 ≤ X) (h : n = V10 R + p10 R.length * (part + p10 (9 - i) * X)) (hpos : 0 < part ∨ 0 < X) : p10 R.length ≤ n := by
  have v := V10_nonneg hR
  have a := p10_pos R.length
  have b := p10_pos (9 - i)
  have c : 1 ≤ part + p10 (9 - i) * X := by
    rcases hpos with q | q
    · have := Int.mul_nonneg (show 0 ≤ p10 (9 - i) by omega) hX; omega
    · have := Int.mul_le_mul_of_nonneg_left (show 1 ≤ X by omega) (show 0 ≤ p10 (9 - i) by omega); omega
  have d := Int.mul_le_mul_of_nonneg_left c (show 0 ≤ p10 R.length by omega)
  omega
theorem fmt_last (R : List Int) (d : Int) (hd : d ≠ 0) : (R ++ [d]).getLast? ≠ some 0 := by
  rw [List.getLast?_append]; simpa using hd
/-- a row, its first and last k places exchanged -/
def turn (l : List Int) (k : Nat) : List Int := (List.range l.length).map fun t => if t < k ∨ l.length - k ≤ t then l[l.length - 1 - t]?.getD 0 else l[t]?.getD 0
theorem turn_len (l : List Int) (k : Nat) : (turn l k).length = l.length := by simp [turn]
theorem turn_zero (l : List Int) : turn l 0 = l := by
  apply List.ext_getElem
  · simp [turn]
  · intro i h1 h2
    have : ¬ l.length ≤ i := by omega
    simp [turn, this, h2]
theorem turn_at (l : List Int) (k i : Nat) (h : i < l.length) : (turn l k)[i]?.getD 0 = if i < k ∨ l.length - k ≤ i then l[l.length - 1 - i]?.getD 0 else l[i]?.getD 0 := by
  simp [turn, h]
theorem turn_succ (l : List Int) (k : Nat) (h : k < l.length - 1 - k) : ((turn l k).set k (l[l.length - 1 - k]?.getD 0)).set (l.length - 1 - k) (l[k]?.getD 0) = turn l (k + 1) := by
  apply List.ext_getElem
  · simp [turn]
  · intro i h1 h2
    have hi : i < l.length := by simpa [turn] using h2
    simp only [turn, List.getElem_set, List.getElem_map, List.getElem_range]
    by_cases e1 : l.length - 1 - k = i
    · subst e1
      rw [if_pos rfl, if_pos (by omega)]
      congr 2
      omega
    · rw [if_neg e1]
      by_cases e2 : k = i
      · subst e2
        rw [if_pos rfl, if_pos (by omega)]
      · rw [if_neg e2]
        have : (i < k ∨ l.length - k ≤ i) ↔ (i < k + 1 ∨ l.length - (k + 1) ≤ i) := by omega
        simp only [this]
theorem turn_end (l : List Int) (k : Nat) (h : l.length ≤ 2 * k + 1) (hk : 2 * k ≤ l.length + 1) : turn l k = l.reverse := by
  apply List.ext_getElem
  · simp [turn]
  · intro i h1 h2
    have hi : i < l.length := by simpa [turn] using h1
    simp only [turn, List.getElem_map, List.getElem_range, List.getElem_reverse]
    by_cases c : i < k ∨ l.length - k ≤ i
    · rw [if_pos c]; simp [show l.length - 1 - i < l.length by omega]
    · rw [if_neg c]
      have : i = l.length - 1 - i := by omega
      simp only [← this]
      simp [hi]
end Go.Proofs.Ytpplleoiehnlkaa.Nt
