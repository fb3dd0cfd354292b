/-
  Sizes of fractions.
-/
import Derived.Test.YtfidddcjieoblaaEnv
namespace Go.Proofs.Ytfidddcjieoblaa.Gx
open Go Go.RowKit Tw B Nt
set_option linter.unusedVariables false

attribute [simp] fq_qf
/-- the size of a rational number in digits -/
def qs (q : Rat) : Nat := fs (qf q)
theorem fs_qf (q : Rat) : fs (qf q) = qs q := rfl
theorem qs_le {q : Rat} {c : Nat} (h : Qb c q) : qs q ≤ c := by
  unfold qs fs qf
  exact Nat.max_le.2 ⟨dg_len (by omega) h.1, dg_len (by omega) h.2⟩
theorem Bp_lt {l : List Int} {n : Int} (h : Canon l) (hn : N l = n) {c : Nat} (hc : l.length ≤ c) : n < Bp c := by
  rw [← hn]; exact Int.lt_of_lt_of_le (N_lt h.1) (Bp_mono hc)
theorem Qb_qs (q : Rat) : Qb (qs q) q := by
  unfold qs fs qf
  exact ⟨Bp_lt (canon_dg _) (N_dg (by omega)) (Nat.le_max_left _ _), Bp_lt (canon_dg _) (N_dg (by omega)) (Nat.le_max_right _ _)⟩
theorem qs_pos (q : Rat) : 1 ≤ qs q := by
  rcases Nat.eq_zero_or_pos (qs q) with h | h
  · have := (Qb_qs q).2
    rw [h] at this
    have h1 : Bp 0 = 1 := rfl
    rw [h1] at this
    have := q.den_pos
    omega
  · exact h
theorem qs_add (p q : Rat) : qs (p + q) ≤ qs p + qs q + 1 := qs_le ((Qb_qs p).add (Qb_qs q))
theorem qs_sub (p q : Rat) : qs (p - q) ≤ qs p + qs q + 1 := qs_le ((Qb_qs p).sub (Qb_qs q))
theorem qs_mul (p q : Rat) : qs (p * q) ≤ qs p + qs q := qs_le ((Qb_qs p).mul (Qb_qs q) (qs_pos p))
theorem qs_neg (p : Rat) : qs (-p) ≤ qs p := qs_le (Qb_qs p).neg
theorem qs_zero : qs 0 ≤ 1 := qs_le Qb.zero
theorem qs_one : qs 1 ≤ 1 := qs_le Qb.one
theorem N_lt' {l : List Int} (h : Ds l) {c : Nat} (hc : l.length ≤ c) : N l < Bp c := Int.lt_of_lt_of_le (N_lt h) (Bp_mono hc)
/-- the digits of both parts are digits -/
def Fd (f : fT.den) : Prop := Ds f.2.1 ∧ Ds f.2.2
theorem qs_fq {f : fT.den} (h : Fd f) : qs (fq f) ≤ fs f + 1 := by
  refine qs_le (mk_b (N_nonneg h.1) (N_lt' h.1 ?_) (N_lt' h.2 ?_) (by omega))
  · have := Nat.le_max_left f.2.1.length f.2.2.length; unfold fs; omega
  · have := Nat.le_max_right f.2.1.length f.2.2.length; unfold fs; omega
theorem qf_same {p q : Rat} : ((qf p).1 = (qf q).1 ∧ (qf p).2.1 = (qf q).2.1 ∧ (qf p).2.2 = (qf q).2.2) ↔ p = q := by
  constructor
  · rintro ⟨h1, h2, h3⟩
    have : qf p = qf q := Prod.ext h1 (Prod.ext h2 h3)
    rw [← fq_qf p, ← fq_qf q, this]
  · rintro rfl; exact ⟨rfl, rfl, rfl⟩
theorem qf_inj {p q : Rat} (h : qf p = qf q) : p = q := by rw [← fq_qf p, ← fq_qf q, h]
theorem qf_num (q : Rat) : (qf q).2.1.length = 0 ↔ q = 0 := by
  have h1 := (canon_dg (q.num.natAbs : Int)).zero
  rw [N_dg (by omega)] at h1
  show (dg (q.num.natAbs : Int)).length = 0 ↔ q = 0
  rw [List.length_eq_zero_iff, ← h1, ← Rat.num_eq_zero]
  omega
theorem qf_den (q : Rat) : (qf q).2.2.length ≠ 0 := by
  have h1 := (canon_dg (q.den : Int)).zero
  rw [N_dg (by omega)] at h1
  show (dg (q.den : Int)).length ≠ 0
  rw [Ne, List.length_eq_zero_iff, ← h1]
  have := q.den_pos
  omega
theorem qf_neg (q : Rat) : (qf q).1 = decide (q.num < 0) := rfl
theorem N_num (q : Rat) : N (qf q).2.1 = (q.num.natAbs : Int) := N_dg (by omega)
theorem N_den (q : Rat) : N (qf q).2.2 = (q.den : Int) := N_dg (by omega)
theorem len_num (q : Rat) : (qf q).2.1.length ≤ qs q := Nat.le_max_left _ _
theorem len_den (q : Rat) : (qf q).2.2.length ≤ qs q := Nat.le_max_right _ _
theorem N_dgN (n : Nat) : N (dg (n : Int)) = n := N_dg (by omega)
theorem ds_dg (n : Int) : Ds (dg n) := (canon_dg n).1
theorem ds_num (q : Rat) : Ds (qf q).2.1 := ds_dg _
theorem ds_den (q : Rat) : Ds (qf q).2.2 := ds_dg _
theorem dg_mul {l k : List Int} (hl : Ds l) (hk : Ds k) : (dg (N l * N k)).length ≤ l.length + k.length := by
  refine dg_len (Int.mul_nonneg (N_nonneg hl) (N_nonneg hk)) ?_
  rw [Bp_add]
  have h1 := N_lt hl
  have h2 := N_lt hk
  have h3 := N_nonneg hl
  have h4 := N_nonneg hk
  have h5 := Int.mul_le_mul_of_nonneg_left (show N k ≤ Bp k.length by omega) h3
  have h6 := Int.mul_lt_mul_of_pos_right h1 (show 0 < Bp k.length by have := Bp_pos k.length; omega)
  omega
theorem dg_add {l k : List Int} (hl : Ds l) (hk : Ds k) : (dg (N l + N k)).length ≤ l.length + k.length + 1 := by
  refine dg_len (by have := N_nonneg hl; have := N_nonneg hk; omega) ?_
  have h1 := N_lt hl
  have h2 := N_lt hk
  have h3 := Bp_mono (show l.length ≤ l.length + k.length by omega)
  have h4 := Bp_mono (show k.length ≤ l.length + k.length by omega)
  have h5 := Bp_add (l.length + k.length) 1
  have h6 : Bp 1 = 4294967296 := by decide
  have h7 := Bp_pos (l.length + k.length)
  rw [h6] at h5
  omega
theorem dg_mono {a b : Int} (h0 : 0 ≤ a) (h : a ≤ b) : (dg a).length ≤ (dg b).length := by
  refine dg_len h0 ?_
  have := N_lt (canon_dg b).1
  rw [N_dg (by omega)] at this
  omega
theorem dg_small {n : Int} (h0 : 0 ≤ n) (h : n < 18446744073709551616) : (dg n).length ≤ 2 := by
  have e : Bp 2 = 18446744073709551616 := by decide
  exact dg_len h0 (by rw [e]; exact h)
/-- sums of fractions by their parts -/
theorem fadd_eq (X Y : Rat) : X + Y = mkRat (sg (decide (X.num < 0)) (X.num.natAbs : Int) * (Y.den : Int) + sg (decide (Y.num < 0)) (Y.num.natAbs : Int) * (X.den : Int)) (X.den * Y.den) := by
  have := mk_add (decide (X.num < 0)) (decide (Y.num < 0)) (X.num.natAbs : Int) (X.den : Int) (Y.num.natAbs : Int) (Y.den : Int) (by have := X.den_pos; omega) (by have := Y.den_pos; omega)
  rw [mk_self, mk_self] at this
  rw [this]
  simp
theorem inR_i64 {n : Int} : inR .i64 n ↔ -9223372036854775808 ≤ n ∧ n ≤ 9223372036854775807 := Iff.rfl
end Go.Proofs.Ytfidddcjieoblaa.Gx
