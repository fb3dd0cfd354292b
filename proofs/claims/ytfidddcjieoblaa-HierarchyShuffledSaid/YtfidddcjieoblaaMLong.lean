/-
  Long, Div, in one text: see the remarks at the head of each part.
-/
import Derived.Test.YtfidddcjieoblaaMShift
import Derived.Test.YtfidddcjieoblaaMPlain
import Derived.StillTailTactics
import Derived.Deep.LoopGhost
/-
  Contract of bignat.longDivide.
-/
namespace Go.Proofs.Ytfidddcjieoblaa.Nt
open Go.ChangeShapes Go.WideShapes Go.ChangeAt Go.RowKit B
set_option linter.unusedVariables false

theorem IsNew.keep {base : Nat} {w w' : World} {v : Value} {n : Int} (h : IsNew base w v n) (hb : Below w.heap.size w w') : IsNew base w' v n := by
  obtain ⟨l, h1, h2, h3, h4⟩ := h
  exact ⟨l, h1.keep hb, h2, h3, h4.keep hb⟩
theorem IsNew.other {e : TypeId} {base base' : Nat} {w w' : World} {v u : Value} {size m : Nat} {xs : List Value} {n : Int} (h : IsNew base w v n) (ho : w.ownsRow base' e size u m xs) (hne : e ≠ 125) (hg : w.grownBy w' u.ownBlock) : IsNew base w' v n := by
  obtain ⟨l, h1, h2, h3, h4⟩ := h
  obtain ⟨g1, g2⟩ := h4.other ho hne hg
  exact ⟨l, h1.of_heap g2, h2, h3, g1⟩
theorem IsNew.mono {base base' : Nat} {w : World} {v : Value} {n : Int} (h : IsNew base w v n) (hb : base' ≤ base) : IsNew base' w v n := by
  obtain ⟨l, h1, h2, h3, h4⟩ := h
  exact ⟨l, h1, h2, h3, h4.mono hb⟩
/-- quotient and remainder -/
def RetQR (base : Nat) (w : World) (q r : Int) (e : Ending) (w' : World) : Prop :=
  ∃ vq vr, e = .returned (.tuple #[vq, vr]) ∧ IsNew base w' vq q ∧ IsNew base w' vr r ∧ Below base w w'
theorem top_ge {V : List Int} (hV : Ds V) (k : Nat) (hk : V.length = k + 1) (c : Int) (h : c * Bp k ≤ N V) : c ≤ V[k]?.getD 0 := by
  have e := take_drop_N V k (by omega)
  have e1 : N (V.drop k) = V[k]?.getD 0 := by rw [N_drop (by omega), List.drop_eq_nil_of_le (by omega)]; simp [N]
  have h2 := N_lt (hV.take k)
  have h3 : (V.take k).length = k := by simp; omega
  rw [h3] at h2
  rw [e1] at e
  rcases Int.lt_or_le (V[k]?.getD 0) c with hh | hh
  · exfalso
    have := Int.mul_le_mul_of_nonneg_right (show V[k]?.getD 0 + 1 ≤ c by omega) (show 0 ≤ Bp k by have := Bp_pos k; omega)
    rw [Int.add_mul, Int.one_mul, Int.mul_comm] at this
    omega
  · exact hh
/-- the divisor, shifted so that its first digit is large -/
theorem norm_math {l2 : List Int} (C2 : Canon l2) (n : Nat) (hn : l2.length = n + 2) : ∃ s : Nat, s < 32 ∧ (32 : Int) - (Lib.bitLen (l2[n + 1]?.getD 0).toNat : Int) = (s : Int) ∧
    N l2 * 2 ^ s < Bp (n + 2) ∧ 2147483648 * Bp (n + 1) ≤ N l2 * 2 ^ s ∧ 0 ≤ l2[n + 1]?.getD 0 ∧ l2[n + 1]?.getD 0 ≤ 4294967295 := by
  have b := blen_digits C2 (n + 1) (by omega)
  have hd := C2.1.at (n + 1)
  have t := bitLen_top _ b.2 hd.2
  have sp := blen_spec (C2.pos (by rintro rfl; simp at hn))
  rw [b.1] at sp
  generalize Lib.bitLen (l2[n + 1]?.getD 0).toNat = T at *
  refine ⟨32 - T, by omega, by omega, ?_, ?_, hd.1, by omega⟩
  · have := Int.mul_lt_mul_of_pos_right sp.2.1 (show (0 : Int) < 2 ^ (32 - T) by have := two_pos (32 - T); omega)
    rw [← Int.pow_add, show 32 * (n + 1) + T + (32 - T) = 32 * (n + 2) by omega, ← Bp_pow] at this
    exact this
  · have := Int.mul_le_mul_of_nonneg_right sp.1 (show (0 : Int) ≤ 2 ^ (32 - T) by have := two_pos (32 - T); omega)
    rw [← Int.pow_add, show 32 * (n + 1) + T - 1 + (32 - T) = 31 + 32 * (n + 1) by omega, Int.pow_add, ← Bp_pow] at this
    exact this
theorem start_lt {l1 l2 : List Int} (D1 : Ds l1) (n s K : Nat) (hs : s < 32) (hK : n + 1 + K = l1.length) (h : 2147483648 * Bp (n + 1) ≤ N l2 * 2 ^ s) : N l1 * 2 ^ s < N l2 * 2 ^ s * Bp K ∧ N l1 * 2 ^ s < Bp (l1.length + 1) := by
  have h1 := N_lt D1
  have hp := pow_bd hs
  have a1 := Int.mul_lt_mul_of_pos_right h1 (show (0 : Int) < 2 ^ s by omega)
  have a2 := Int.mul_le_mul_of_nonneg_left hp.2 (show 0 ≤ Bp l1.length by have := Bp_pos l1.length; omega)
  have a3 := Int.mul_le_mul_of_nonneg_right h (show 0 ≤ Bp K by have := Bp_pos K; omega)
  rw [Int.mul_assoc, ← Bp_add, hK] at a3
  have := Bp_pos l1.length
  rw [Bp]
  omega

theorem step_eq (q g b v r : Int) : q * (4294967296 * b) * v + r = (g + 4294967296 * q) * b * v + (r - b * (g * v)) := by
  have e1 : q * (4294967296 * b) * v = 4294967296 * (q * b * v) := by rw [Int.mul_left_comm q, Int.mul_assoc]
  have e2 : (g + 4294967296 * q) * b * v = b * (g * v) + 4294967296 * (q * b * v) := by
    rw [Int.add_mul, Int.add_mul, Int.mul_assoc 4294967296, Int.mul_assoc 4294967296, Int.mul_assoc g b, Int.mul_left_comm g b]
  rw [e1, e2]; omega

theorem fin_math {L V qs l1 l2 : List Int} {s la n : Nat} (hs : s < 32) (hL : Ds L) (h : Ds qs ∧ N L < N V * Bp 0 ∧ N l1 * 2 ^ s = N qs * Bp 0 * N V + N L) (hV : 0 < N V) (hVd : Ds V) (hLl : L.length = la + 1) (hVl : V.length = n + 2) (hVN : N V = N l2 * 2 ^ s) (hn : n + 2 ≤ la) :
    N qs = N l1 / N l2 ∧ N ((L.drop 0).take (n + 2)) / 2 ^ s = N l1 % N l2 := by
  obtain ⟨_, h1, h2⟩ := h
  simp only [Bp, Int.mul_one] at h1 h2
  have hp := two_pos s
  have h0 := N_nonneg hL
  have u := (Int.ediv_emod_unique (a := N l1 * 2 ^ s) (b := N V) (r := N L) (q := N qs) hV).2 ⟨by rw [h2, Int.mul_comm (N V)]; omega, h0, h1⟩
  rw [hVN, Int.mul_ediv_mul_of_pos_left _ _ (by omega)] at u
  rw [emod_mul _ _ (by omega)] at u
  refine ⟨u.1.symm, ?_⟩
  have hlow : N (L.take (n + 2)) = N L := by
    have e := take_drop_N L (n + 2) (by omega)
    have z := N_nonneg (hL.drop (n + 2))
    have y := N_nonneg (hL.take (n + 2))
    have v := N_lt hVd
    rw [hVl] at v
    rcases Int.lt_or_eq_of_le z with z1 | z1
    · exfalso
      have := Int.mul_le_mul_of_nonneg_left (show 1 ≤ N (L.drop (n + 2)) by omega) (show 0 ≤ Bp (n + 2) by have := Bp_pos (n + 2); omega)
      rw [Int.mul_one] at this
      omega
    · rw [← z1, Int.mul_zero] at e; omega
  rw [List.drop_zero, hlow, ← u.2, Int.mul_ediv_cancel _ (by omega)]

end Go.Proofs.Ytfidddcjieoblaa.Nt

/-
  Contracts of bignat.DivMod, gcdSmall and GCD.
-/
namespace Go.Proofs.Ytfidddcjieoblaa.Nt
open Go.ChangeShapes Go.WideShapes Go.ChangeAt Go.RowKit B
set_option linter.unusedVariables false

/-- quotient, remainder, and whether the divisor is not 0 -/
def RetDM (base : Nat) (w : World) (x y : Int) (e : Ending) (w' : World) : Prop :=
  ∃ vq vr, e = .returned (.tuple #[vq, vr, .bool (decide (y ≠ 0))]) ∧ IsNew base w' vq (x / y) ∧ IsNew base w' vr (if y = 0 then 0 else x % y) ∧ Below base w w'

/-- the greatest common divisor -/
def gcdI (x y : Int) : Int := (Nat.gcd x.toNat y.toNat : Int)
theorem gcdI_step {x y : Int} (hx : 0 ≤ x) (hy : 0 ≤ y) : gcdI x y = gcdI y (x % y) := by
  obtain ⟨a, rfl⟩ := Int.eq_ofNat_of_zero_le hx
  obtain ⟨b, rfl⟩ := Int.eq_ofNat_of_zero_le hy
  unfold gcdI
  have : ((a : Int) % (b : Int)).toNat = a % b := by omega
  rw [this, Int.toNat_natCast, Int.toNat_natCast, Nat.gcd_comm a b, Nat.gcd_rec b a, Nat.gcd_comm]
theorem gcdI_zero {x : Int} (hx : 0 ≤ x) : gcdI x 0 = x := by
  obtain ⟨a, rfl⟩ := Int.eq_ofNat_of_zero_le hx
  simp [gcdI]

end Go.Proofs.Ytfidddcjieoblaa.Nt
