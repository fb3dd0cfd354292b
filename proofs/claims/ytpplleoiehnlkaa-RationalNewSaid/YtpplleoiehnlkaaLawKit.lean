/-
  Bounds of sums, products, quotients: for the walks of the laws.
-/
import Derived.Test.YtpplleoiehnlkaaSame
namespace Go.Proofs.Ytpplleoiehnlkaa.Nt
set_option linter.unusedVariables false

theorem IsNew.zero {base : Nat} {w : World} {v : Value} {n : Int} (h : IsNew base w v n) (e : n = 0) : ∃ a cap, v = .slice a 0 cap := by
  obtain ⟨l, h1, h2, h3, _⟩ := h
  have : l = [] := h2.zero.1 (by rw [h3, e])
  subst this
  obtain ⟨a, cap, rfl, _⟩ := h1
  exact ⟨a, cap, rfl⟩
theorem blen_zero {n : Int} (h : 0 ≤ n) : ((blen n : Int) == 0) = decide (n = 0) := by
  rcases Int.lt_or_eq_of_le h with h1 | h1
  · have := blen_spec h1
    rw [decide_eq_false (by omega), beq_eq_false_iff_ne]; omega
  · subst h1; rfl
theorem bp_add {x y : Int} {a b : Nat} (hx : x < Bp a) (hy : y < Bp b) : x + y < Bp (a + b + 1) := by
  have h1 := Bp_mono (show a ≤ a + b by omega)
  have h2 := Bp_mono (show b ≤ a + b by omega)
  have := Bp_pos (a + b)
  rw [Bp]; omega
theorem bp_mul {x y : Int} {a b : Nat} (x0 : 0 ≤ x) (hx : x < Bp a) (y0 : 0 ≤ y) (hy : y < Bp b) : x * y < Bp (a + b) := by
  rw [Bp_add]
  have h1 := Int.mul_le_mul (a := x) (b := y) (c := Bp a - 1) (d := Bp b) (by omega) (by omega) y0 (by have := Bp_pos a; omega)
  have h2 := Bp_pos b
  rw [Int.sub_mul, Int.one_mul] at h1
  omega
theorem bp_sub {x y : Int} {a : Nat} (hx : x < Bp a) (hy : 0 ≤ y) : x - y < Bp a := by omega
theorem bp_lit {x : Int} (h : x < 18446744073709551616) : x < Bp 2 := by
  have : Bp 2 = 18446744073709551616 := by decide
  omega
theorem bp_div {x y : Int} {a : Nat} (x0 : 0 ≤ x) (hx : x < Bp a) (y0 : 0 ≤ y) : x / y < Bp a := by
  have := Int.ediv_le_self y x0
  omega
theorem emod_le {x y : Int} (x0 : 0 ≤ x) (y0 : 0 ≤ y) : x % y ≤ x := by
  have h1 := Int.mul_ediv_add_emod x y
  have h2 := Int.mul_nonneg y0 (Int.ediv_nonneg x0 y0)
  omega
theorem bp_mod {x y : Int} {a : Nat} (x0 : 0 ≤ x) (hx : x < Bp a) (y0 : 0 ≤ y) : (if y = 0 then 0 else x % y) < Bp a := by
  have := emod_le x0 y0
  have := Bp_pos a
  split <;> omega
theorem gcdI_le {x y : Int} (x0 : 0 ≤ x) (y0 : 0 ≤ y) : gcdI x y ≤ x + y := by
  obtain ⟨a, rfl⟩ := Int.eq_ofNat_of_zero_le x0
  obtain ⟨b, rfl⟩ := Int.eq_ofNat_of_zero_le y0
  unfold gcdI
  rw [Int.toNat_natCast, Int.toNat_natCast]
  rcases Nat.eq_zero_or_pos a with h | h
  · subst h; simp
  · have := Nat.gcd_le_left b h; omega
theorem bp_gcd {x y : Int} {a b : Nat} (x0 : 0 ≤ x) (hx : x < Bp a) (y0 : 0 ≤ y) (hy : y < Bp b) : gcdI x y < Bp (a + b + 1) := by
  have := gcdI_le x0 y0
  have := bp_add hx hy
  omega
end Go.Proofs.Ytpplleoiehnlkaa.Nt
