/-
  Same, LawKit, Pow, in one text: see the remarks at the head of each part.
-/
import Derived.Test.YtfidddcjieoblaaMText
/-
  Contracts of credenceref1.NatSame, credencelaw1.same, credencebase.Nat and credencelaw1.known.
-/
namespace Go.Proofs.Ytfidddcjieoblaa.Nt
open Go.ChangeShapes Go.WideShapes Go.ChangeAt Go.RowKit B
set_option linter.unusedVariables false

theorem list_ne {la lb : List Int} (hl : la.length = lb.length) (k : Nat) (hk : k < la.length) (h : la[k]?.getD 0 ≠ lb[k]?.getD 0) : la ≠ lb := by
  rintro rfl; exact h rfl

/-- the digits that credencebase.Nat makes -/
def bdig (d : Int) : Int := if bits .and .u32 d 7 = 7 then 4294967295 - d / 268435456 else d
def bnat (l : List Int) : List Int := (l.take 8).map bdig
theorem bdig_bd {d : Int} (h : 0 ≤ d ∧ d < 4294967296) : 0 ≤ bdig d ∧ bdig d < 4294967296 := by
  unfold bdig; split <;> omega
theorem bnat_ds {l : List Int} (h : Ds l) : Ds (bnat l) := by
  intro d hd
  simp only [bnat, List.mem_map] at hd
  obtain ⟨x, hx, rfl⟩ := hd
  exact bdig_bd (h x (List.mem_of_mem_take hx))
theorem bnat_len (l : List Int) : (bnat l).length ≤ 8 := by simp [bnat]; omega

def RetRow (base : Nat) (w : World) (l : List Int) (e : Ending) (w' : World) : Prop := ∃ v, e = .returned v ∧ Row .u32 w' v l ∧ Below base w w'

/-- and the memory is new -/
def RetRowF (base : Nat) (w : World) (l : List Int) (e : Ending) (w' : World) : Prop := ∃ v, e = .returned v ∧ Row .u32 w' v l ∧ Below base w w' ∧ Fresh 125 base w' v

end Go.Proofs.Ytfidddcjieoblaa.Nt

/-
  Bounds of sums, products, quotients: for the walks of the laws.
-/
namespace Go.Proofs.Ytfidddcjieoblaa.Nt
set_option linter.unusedVariables false

theorem IsNew.zero {base : Nat} {w : World} {v : Value} {n : Int} (h : IsNew base w v n) (e : n = 0) : ∃ a cap, v = .slice a 0 cap := by
  obtain ⟨l, h1, h2, h3, _⟩ := h
  have : l = [] := h2.zero.1 (by rw [h3, e])
  subst this
  obtain ⟨a, cap, rfl, _⟩ := h1
  exact ⟨a, cap, rfl⟩
theorem blen_zero {n : Int} (h : 0 ≤ n) : ((blen n : Int) == 0) = decide (n = 0) := by
  rcases Int.lt_or_eq_of_le h with h1 | h1
  · have := blen_spec h1
    rw [decide_eq_false (by omega), beq_eq_false_iff_ne]; omega
  · subst h1; rfl
theorem bp_add {x y : Int} {a b : Nat} (hx : x < Bp a) (hy : y < Bp b) : x + y < Bp (a + b + 1) := by
  have h1 := Bp_mono (show a ≤ a + b by omega)
  have h2 := Bp_mono (show b ≤ a + b by omega)
  have := Bp_pos (a + b)
  rw [Bp]; omega
theorem bp_mul {x y : Int} {a b : Nat} (x0 : 0 ≤ x) (hx : x < Bp a) (y0 : 0 ≤ y) (hy : y < Bp b) : x * y < Bp (a + b) := by
  rw [Bp_add]
  have h1 := Int.mul_le_mul (a := x) (b := y) (c := Bp a - 1) (d := Bp b) (by omega) (by omega) y0 (by have := Bp_pos a; omega)
  have h2 := Bp_pos b
  rw [Int.sub_mul, Int.one_mul] at h1
  omega
theorem bp_sub {x y : Int} {a : Nat} (hx : x < Bp a) (hy : 0 ≤ y) : x - y < Bp a := by omega
theorem bp_lit {x : Int} (h : x < 18446744073709551616) : x < Bp 2 := by
  have : Bp 2 = 18446744073709551616 := by decide
  omega
theorem bp_div {x y : Int} {a : Nat} (x0 : 0 ≤ x) (hx : x < Bp a) (y0 : 0 ≤ y) : x / y < Bp a := by
  have := Int.ediv_le_self y x0
  omega
theorem emod_le {x y : Int} (x0 : 0 ≤ x) (y0 : 0 ≤ y) : x % y ≤ x := by
  have h1 := Int.mul_ediv_add_emod x y
  have h2 := Int.mul_nonneg y0 (Int.ediv_nonneg x0 y0)
  omega
theorem bp_mod {x y : Int} {a : Nat} (x0 : 0 ≤ x) (hx : x < Bp a) (y0 : 0 ≤ y) : (if y = 0 then 0 else x % y) < Bp a := by
  have := emod_le x0 y0
  have := Bp_pos a
  split <;> omega
theorem gcdI_le {x y : Int} (x0 : 0 ≤ x) (y0 : 0 ≤ y) : gcdI x y ≤ x + y := by
  obtain ⟨a, rfl⟩ := Int.eq_ofNat_of_zero_le x0
  obtain ⟨b, rfl⟩ := Int.eq_ofNat_of_zero_le y0
  unfold gcdI
  rw [Int.toNat_natCast, Int.toNat_natCast]
  rcases Nat.eq_zero_or_pos a with h | h
  · subst h; simp
  · have := Nat.gcd_le_left b h; omega
theorem bp_gcd {x y : Int} {a b : Nat} (x0 : 0 ≤ x) (hx : x < Bp a) (y0 : 0 ≤ y) (hy : y < Bp b) : gcdI x y < Bp (a + b + 1) := by
  have := gcdI_le x0 y0
  have := bp_add hx hy
  omega
end Go.Proofs.Ytfidddcjieoblaa.Nt

/-
  Contract of bignat.Pow.
-/
namespace Go.Proofs.Ytfidddcjieoblaa.Nt
open Go.ChangeShapes Go.WideShapes Go.ChangeAt Go.RowKit B
set_option linter.unusedVariables false

/-- the error of a power, and its value -/
def powE (x n : Int) : Int := if n < 0 then 1 else if 65536 < blen (x ^ n.toNat) then 4 else 0
def powX (x n : Int) : Int := if n < 0 then 0 else if 65536 < blen (x ^ n.toNat) then 0 else x ^ n.toNat
def RetPow (base : Nat) (w : World) (x n : Int) (e : Ending) (w' : World) : Prop :=
  ∃ v, e = .returned (.tuple #[v, .int .i64 (powE x n)]) ∧ IsNew base w' v (powX x n) ∧ Below base w w'

theorem and1_i64 (m : Int) (h0 : 0 ≤ m) (h1 : m < 9223372036854775808) : bits .and .i64 m 1 = m % 2 := by
  obtain ⟨n, rfl⟩ := Int.eq_ofNat_of_zero_le h0
  show IntKind.i64.wrap ((BitVec.ofInt 64 (n : Int) &&& BitVec.ofInt 64 1).toNat : Int) = _
  have e1 : (BitVec.ofInt 64 1).toNat = 1 := by decide
  rw [BitVec.toNat_and, ofInt_u64 n (by omega), e1, Nat.and_one_is_mod]
  have : IntKind.i64.wrap ((n % 2 : Nat) : Int) = ((n % 2 : Nat) : Int) := IntWalk.i64_in _ (by omega)
  rw [this]; omega
theorem blen_big {x : Int} {b : Nat} (h : (2 : Int) ^ b ≤ x) : b < blen x := by
  have hp := two_pos b
  have s := blen_spec (show 0 < x by omega)
  rcases Nat.lt_or_ge b (blen x) with h1 | h1
  · exact h1
  · exfalso
    have := two_mono h1
    omega
theorem pow_pos' {x : Int} (hx : 1 ≤ x) (n : Nat) : 1 ≤ x ^ n := by
  induction n with
  | zero => simp
  | succ n ih =>
    rw [Int.pow_succ]
    have := Int.mul_le_mul ih hx (by omega) (by omega)
    omega
theorem pow_le_pow {x y : Int} (hx : 0 ≤ x) (h : x ≤ y) (n : Nat) : x ^ n ≤ y ^ n := by
  induction n with
  | zero => simp
  | succ n ih =>
    rw [Int.pow_succ, Int.pow_succ]
    exact Int.mul_le_mul ih h hx (Int.pow_nonneg (by omega))
theorem pow_mono {x : Int} (hx : 1 ≤ x) {m n : Nat} (h : m ≤ n) : x ^ m ≤ x ^ n := by
  obtain ⟨k, rfl⟩ := Nat.exists_eq_add_of_le h
  rw [Int.pow_add]
  have h1 := pow_pos' hx m
  have h2 := Int.mul_le_mul_of_nonneg_left (pow_pos' hx k) (show 0 ≤ x ^ m by omega)
  omega
/-- where the early test says 'too large', it is -/
theorem pow_large {x : Int} (hx : 2 ≤ x) {n : Nat} (hn : 1 ≤ n) (h : 65536 ≤ n ∨ 65536 < blen x ∨ 65536 ≤ n * (blen x - 1)) : 65536 < blen (x ^ n) := by
  have s := blen_spec (show 0 < x by omega)
  apply blen_big
  rcases h with h | h | h
  · exact Int.le_trans (two_mono h) (pow_le_pow (by omega) hx n)
  · have h1 := two_mono (show 65536 ≤ blen x - 1 by omega)
    have h2 := pow_mono (show 1 ≤ x by omega) hn
    rw [Int.pow_one] at h2
    exact Int.le_trans h1 (Int.le_trans s.1 h2)
  · have h1 := two_mono h
    have h2 := pow_le_pow (Int.pow_nonneg (by omega)) s.1 n
    rw [← Int.pow_mul, Nat.mul_comm] at h2
    exact Int.le_trans h1 h2
theorem pow_small {x : Int} (hx : 2 ≤ x) {n : Nat} (h1 : n < 65536) (h2 : blen x ≤ 65536) (h3 : n * (blen x - 1) < 65536) : x ^ n < Bp 4096 ∧ x < Bp 4096 := by
  have s := blen_spec (show 0 < x by omega)
  rw [Bp_pow]
  refine ⟨?_, ?_⟩
  · rcases Nat.eq_zero_or_pos n with h0 | h0
    · subst h0
      have := two_mono (show 1 ≤ 32 * 4096 by omega)
      simp only [Int.pow_zero]
      omega
    · have a := Int.lt_of_le_of_lt (pow_le_pow (x := x) (y := 2 ^ blen x - 1) (by omega) (by omega) n) (show ((2 : Int) ^ blen x - 1) ^ n < (2 ^ blen x) ^ n from by
        have p := two_pos (blen x)
        obtain ⟨m, rfl⟩ : ∃ m, n = m + 1 := ⟨n - 1, by omega⟩
        rw [Int.pow_succ, Int.pow_succ]
        have q1 := pow_le_pow (x := 2 ^ blen x - 1) (y := 2 ^ blen x) (by omega) (by omega) m
        have q2 := pow_pos' (x := 2 ^ blen x) (by omega) m
        have q3 := Int.mul_le_mul_of_nonneg_right q1 (show (0 : Int) ≤ 2 ^ blen x - 1 by omega)
        rw [Int.mul_sub ((2 ^ blen x) ^ m), Int.mul_one] at q3
        omega)
      rw [← Int.pow_mul] at a
      have e : blen x * n ≤ 32 * 4096 := by
        have : blen x * n = n * (blen x - 1) + n := by
          obtain ⟨t, ht⟩ : ∃ t, blen x = t + 1 := ⟨blen x - 1, by omega⟩
          rw [ht, Nat.add_sub_cancel, Nat.mul_comm, Nat.mul_add, Nat.mul_one]
        omega
      exact Int.lt_of_lt_of_le a (two_mono e)
  · exact Int.lt_of_lt_of_le s.2.1 (two_mono (by omega))
theorem blen_one {x : Int} (h0 : 0 ≤ x) : blen x = 1 ↔ x = 1 := by
  constructor
  · intro h
    rcases Int.lt_or_eq_of_le h0 with h1 | h1
    · have := blen_spec h1
      rw [h] at this
      simp at this
      omega
    · subst h1; simp [blen] at h
  · rintro rfl; decide
theorem one_pow (n : Nat) : (1 : Int) ^ n = 1 := by
  induction n with
  | zero => rfl
  | succ n ih => rw [Int.pow_succ, ih]; rfl
theorem zero_pow {n : Nat} (h : 1 ≤ n) : (0 : Int) ^ n = 0 := by
  obtain ⟨m, rfl⟩ : ∃ m, n = m + 1 := ⟨n - 1, by omega⟩
  rw [Int.pow_succ, Int.mul_zero]
/-- one more binary digit of the exponent -/
theorem pow_bit (x : Int) (n j : Nat) : x ^ (n / 2 ^ j) = x ^ (n / 2 ^ (j + 1)) * x ^ (n / 2 ^ (j + 1)) * (if (n : Int) / 2 ^ j % 2 = 1 then x else 1) := by
  have e : n / 2 ^ (j + 1) = n / 2 ^ j / 2 := by rw [Nat.pow_succ, Nat.div_div_eq_div_mul]
  have c : ((n : Int) / 2 ^ j) = ((n / 2 ^ j : Nat) : Int) := by simp
  rw [e, c]
  generalize n / 2 ^ j = t
  rcases Nat.mod_two_eq_zero_or_one t with h | h
  · rw [if_neg (by omega), Int.mul_one, ← Int.pow_add]
    congr 1; omega
  · rw [if_pos (by omega), ← Int.pow_add, ← Int.pow_succ]
    congr 1; omega

theorem pow_done {x : Int} {n : Nat} (h : blen (x ^ n) ≤ 65536) : powE x (n : Int) = 0 ∧ powX x (n : Int) = x ^ n := by
  have e : ((n : Int)).toNat = n := rfl
  rw [powE, powX, e, if_neg (by omega), if_neg (by omega), if_neg (by omega), if_neg (by omega)]
  exact ⟨rfl, rfl⟩
theorem pow_over {x : Int} {n : Nat} (h : 65536 < blen (x ^ n)) : powE x (n : Int) = 4 ∧ powX x (n : Int) = 0 := by
  have e : ((n : Int)).toNat = n := rfl
  rw [powE, powX, e, if_neg (by omega), if_pos h, if_neg (by omega), if_pos h]
  exact ⟨rfl, rfl⟩

end Go.Proofs.Ytfidddcjieoblaa.Nt
