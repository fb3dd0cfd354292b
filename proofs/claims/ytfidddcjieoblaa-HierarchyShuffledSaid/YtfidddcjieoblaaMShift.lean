/-
  Shift, LongSteps, Guess, in one text: see the remarks at the head of each part.
-/
import Derived.Test.YtfidddcjieoblaaMAdd
import Derived.Test.YtfidddcjieoblaaMPlain
/-
  Contracts of bignat.shiftLeft and shiftRight.
-/
namespace Go.Proofs.Ytfidddcjieoblaa.Nt
open Go.ChangeShapes Go.WideShapes Go.ChangeAt Go.RowKit B
set_option linter.unusedVariables false

/-- the shifted row, in memory of its own -/
def RetShl (w : World) (l : List Int) (s size : Nat) (e : Ending) (w' : World) : Prop :=
  ∃ r : List Int, e = .returned (.slice (some ⟨w.heap.size, 0, none⟩) size size) ∧ Ds r ∧ N r = N l * 2 ^ s ∧ w'.ownsRow w.heap.size 125 1 (.slice (some ⟨w.heap.size, 0, none⟩) size size) size (r.map (Value.int .u32)) ∧ Below w.heap.size w w'

theorem shr_or32 {s : Nat} (hs : s < 32) (d e : Int) (hd : 0 ≤ d ∧ d < 4294967296) (he : 0 ≤ e ∧ e < 4294967296) :
    bits .or .u32 (d / 2 ^ s) (e * 2 ^ (32 - s) % 4294967296) = d / 2 ^ s + e * 2 ^ (32 - s) % 4294967296 ∧ 0 ≤ d / 2 ^ s + e * 2 ^ (32 - s) % 4294967296 ∧ d / 2 ^ s + e * 2 ^ (32 - s) % 4294967296 < 4294967296 := by
  have h1 := pow_bd hs
  have h2 := pow_bd2 hs
  have h3 := pow32 hs
  have a0 : 0 ≤ d / 2 ^ s := Int.ediv_nonneg hd.1 (by omega)
  have a1 : d / 2 ^ s < 2 ^ (32 - s) := by
    apply Int.ediv_lt_of_lt_mul (by omega)
    rw [Int.mul_comm, h3]; exact hd.2
  have em : e * 2 ^ (32 - s) % 4294967296 = (e % 2 ^ s) * 2 ^ (32 - s) := by
    conv => lhs; rw [← h3]
    rw [emod_mul _ _ (show (0 : Int) < 2 ^ (32 - s) by omega)]
  have m0 : 0 ≤ e % 2 ^ s := Int.emod_nonneg _ (by omega)
  have m1 : e % 2 ^ s < 2 ^ s := Int.emod_lt_of_pos _ (by omega)
  rw [em]
  generalize d / 2 ^ s = x at *
  generalize e % 2 ^ s = m at *
  have b2 := Int.mul_le_mul_of_nonneg_right (show m + 1 ≤ 2 ^ s by omega) (show 0 ≤ (2 : Int) ^ (32 - s) by omega)
  rw [h3, Int.add_mul, Int.one_mul] at b2
  have b3 := Int.mul_nonneg m0 (show 0 ≤ (2 : Int) ^ (32 - s) by omega)
  refine ⟨?_, by omega, by omega⟩
  have hR : (2 : Int) ^ (32 - s) = ((2 ^ (32 - s) : Nat) : Int) := by simp
  rw [hR] at b2 b3 a1 ⊢
  obtain ⟨a, rfl⟩ := Int.eq_ofNat_of_zero_le a0
  obtain ⟨b, rfl⟩ := Int.eq_ofNat_of_zero_le m0
  rw [← Int.natCast_mul] at b2 b3 ⊢
  rw [u32_or_nat _ _ (by omega) (by omega), Nat.or_comm]
  have := Nat.shiftLeft_add_eq_or_of_lt (i := 32 - s) (b := a) (by omega) b
  rw [Nat.shiftLeft_eq] at this
  rw [← this]
  omega
theorem shrL_step (P R : Int) (x : List Int) (k : Nat) (h : k + 1 < x.length) :
    shrL P R (x.drop k) = (x[k]?.getD 0 / P + x[k + 1]?.getD 0 * R % 4294967296) :: shrL P R (x.drop (k + 1)) := by
  rw [drop_cons (show k < x.length by omega), drop_cons h, shrL]
theorem shrL_last (P R : Int) (x : List Int) (k : Nat) (h : k + 1 = x.length) :
    shrL P R (x.drop k) = (x[k]?.getD 0 / P) :: shrL P R (x.drop (k + 1)) := by
  rw [drop_cons (show k < x.length by omega), List.drop_eq_nil_of_le (by omega), shrL, shrL]

end Go.Proofs.Ytfidddcjieoblaa.Nt

/-
  Contracts of bignat.subtractMultiple and addBack: they write into a window of a row of their caller's.
-/
namespace Go.Proofs.Ytfidddcjieoblaa.Nt
open Go.ChangeShapes Go.WideShapes Go.ChangeAt Go.RowKit B
set_option linter.unusedVariables false

/-- the caller's row as it comes back -/
def OwnN (base g m : Nat) (w : World) (L : List Int) : Prop := w.ownsRow base 125 1 (.slice (some ⟨g, 0, none⟩) m m) m (L.map (Value.int .u32))
/-- a row that stays while only blocks from 'base' on are written -/
def Firm (base : Nat) (w : World) (v : Value) (l : List Int) : Prop := ∀ w', Below base w w' → Row .u32 w' v l

def RetSm (base g m : Nat) (w : World) (L V : List Int) (j : Nat) (f : Int) (e : Ending) (w' : World) : Prop :=
  ∃ b : Bool, e = .returned (.bool b) ∧ (smF f (L.drop j) V 0 0 = if b then 1 else 0) ∧ OwnN base g m w' (L.take j ++ smL f (L.drop j) V 0 0) ∧ Only g w w'

theorem and_mask (t : Int) (h0 : 0 ≤ t) (h1 : t < 18446744073709551616) : bits .and .u64 t 4294967295 = t % 4294967296 := by
  obtain ⟨n, rfl⟩ := Int.eq_ofNat_of_zero_le h0
  rw [show (4294967295 : Int) = ((4294967295 : Nat) : Int) from rfl, u64_and_nat _ _ (by omega) (by decide), show (4294967295 : Nat) = 2 ^ 32 - 1 from rfl, Nat.and_two_pow_sub_one_eq_mod]
  omega

def RetAb (base g m : Nat) (w : World) (L V : List Int) (j : Nat) (e : Ending) (w' : World) : Prop :=
  e = .returned (.tuple #[]) ∧ OwnN base g m w' (L.take j ++ abL (L.drop j) V 0) ∧ Only g w w'

end Go.Proofs.Ytfidddcjieoblaa.Nt

/-
  Contract of bignat.guessDigit.
-/
namespace Go.Proofs.Ytfidddcjieoblaa.Nt
open Go.ChangeShapes Go.WideShapes Go.ChangeAt Go.RowKit B
set_option linter.unusedVariables false

def RetGuess (w : World) (q : Int) (e : Ending) (w' : World) : Prop :=
  ∃ g : Int, e = .returned (.int .u64 g) ∧ 0 ≤ g ∧ g < 4294967296 ∧ q ≤ g ∧ g ≤ q + 1 ∧ Below w.heap.size w w'

end Go.Proofs.Ytfidddcjieoblaa.Nt
