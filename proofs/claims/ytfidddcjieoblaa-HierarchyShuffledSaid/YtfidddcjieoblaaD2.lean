/-
  Contracts of the functions on natural numbers, on data.
-/
import Derived.Test.YtfidddcjieoblaaD1
import Derived.Test.YtfidddcjieoblaaMRefH
import Derived.Test.YtfidddcjieoblaaMSame
import Derived.Test.YtfidddcjieoblaaMText
namespace Go.Proofs.Ytfidddcjieoblaa.Gx
open Go Go.RowKit Tw B Nt
set_option linter.unusedVariables false

theorem inR_cmp (x y : Int) : inR .i64 (cmpI x y) := by
  unfold cmpI; split
  · decide
  · split <;> decide
theorem m_i64 {ρ : List Value} {X : Nat → Prop} {w : World} {n : Int} (h0 : -9223372036854775808 ≤ n) (h1 : n ≤ 9223372036854775807) : m ρ X w (.dat (.int .i64) n) [.int .i64 n] := m_int_of ⟨h0, h1⟩
theorem blen_le {l : List Int} (h : Ds l) : (blen (N l) : Int) ≤ 32 * l.length := by
  have h1 := N_lt h
  rw [Bp_pow] at h1
  have := blen_lt (N_nonneg h) (32 * l.length) h1
  omega
def u64v (n : Int) : Int := if n < 18446744073709551616 then n else 0
theorem m_u64R {ρ : List Value} {X : Nat → Prop} {w : World} {n : Int} (h0 : 0 ≤ n) : m ρ X w (.tup (.cons (.dat (.int .u64) (u64v n)) (.cons (.dat .bool (decide (n < 18446744073709551616))) .nil))) [u64R n] := by
  unfold u64R u64v
  by_cases h : n < 18446744073709551616
  · rw [if_pos h, if_pos h, decide_eq_true h]
    exact tup2 (m_int_of (by simp only [inR, lo, hi]; omega)) m_bool_of
  · rw [if_neg h, if_neg h, decide_eq_false h]
    exact tup2 (m_int_of (by simp only [inR, lo, hi]; omega)) m_bool_of

@[go_sem] def rGCDS : Spec := ⟨[nT, nT], fun d => (.dat nT (dg (gcdI (N d.1) (N d.2.1))), [d.1.length ≤ 5000000, d.2.1.length ≤ 5000000])⟩
theorem rGCD_ok : SpecOk Try.prog 73 rGCDS := by
  refine spec_of (s := rGCDS) Try.func73 rfl (by decide) fun d hp ρ X w vs hX hm => ?_
  obtain ⟨x, y, rfl, h1, h2⟩ := args2 hm
  exact ret_new (rGCD x y 5000000 _ _ w (num_of h1 _ hp.1) (num_of h2 _ hp.2.1) (by decide)) hX
@[go_sem] def rNormS : Spec := ⟨[nT], fun d => (.dat nT (dg (N d.1)), [d.1.length ≤ 5000000])⟩
theorem rNorm_ok : SpecOk Try.prog 70 rNormS := by
  refine spec_of (s := rNormS) Try.func70 rfl (by decide) fun d hp ρ X w vs hX hm => ?_
  obtain ⟨x, rfl, h1⟩ := args1 hm
  exact ret_new (rNorm x 5000000 _ w (num_of h1 _ hp.1) (by decide)) hX
@[go_sem] def rSubS : Spec := ⟨[nT, nT], fun d => (.tup (.cons (.dat nT (dg (if N d.2.1 ≤ N d.1 then N d.1 - N d.2.1 else 0))) (.cons (.dat .bool (decide (N d.2.1 ≤ N d.1))) .nil)), [d.1.length ≤ 5000000, d.2.1.length ≤ 5000000])⟩
theorem rSub_ok : SpecOk Try.prog 76 rSubS := by
  refine spec_of (s := rSubS) Try.func76 rfl (by decide) fun d hp ρ X w vs hX hm => ?_
  obtain ⟨x, y, rfl, h1, h2⟩ := args2 hm
  refine (rSub x y 5000000 _ _ w (num_of h1 _ hp.1) (num_of h2 _ hp.2.1) (by decide)).mono fun e w' ⟨v, g1, g2, g3⟩ => ⟨_, g1, tup2 (dat_of_new g2 hX) m_bool_of, g3⟩
@[go_sem] def rDivModS : Spec := ⟨[nT, nT], fun d => (.tup (.cons (.dat nT (dg (N d.1 / N d.2.1))) (.cons (.dat nT (dg (if N d.2.1 = 0 then 0 else N d.1 % N d.2.1))) (.cons (.dat .bool (decide (N d.2.1 ≠ 0))) .nil))), [d.1.length ≤ 5000000, d.2.1.length ≤ 5000000])⟩
theorem rDivMod_ok : SpecOk Try.prog 74 rDivModS := by
  refine spec_of (s := rDivModS) Try.func74 rfl (by decide) fun d hp ρ X w vs hX hm => ?_
  obtain ⟨x, y, rfl, h1, h2⟩ := args2 hm
  refine (rDivMod x y 5000000 _ _ w (num_of h1 _ hp.1) (num_of h2 _ hp.2.1) (by decide)).mono fun e w' ⟨v, v2, g1, g2, g3, g4⟩ => ⟨_, g1, tup3 (dat_of_new g2 hX) (dat_of_new g3 hX) m_bool_of, g4⟩
@[go_sem] def rCmpS : Spec := ⟨[nT, nT], fun d => (.dat (.int .i64) (cmpI (N d.1) (N d.2.1)), [d.1.length ≤ 5000000, d.2.1.length ≤ 5000000])⟩
theorem rCmp_ok : SpecOk Try.prog 66 rCmpS := by
  refine spec_of (s := rCmpS) Try.func66 rfl (by decide) fun d hp ρ X w vs hX hm => ?_
  obtain ⟨x, y, rfl, h1, h2⟩ := args2 hm
  exact (rCmp x y 5000000 _ _ w (num_of h1 _ hp.1) (num_of h2 _ hp.2.1) (by decide)).mono fun e w' ⟨g1, g2⟩ => ⟨_, g1, m_int_of (inR_cmp _ _), g2⟩
@[go_sem] def rOfS : Spec := ⟨[.int .u64], fun d => (.dat nT (dg d.1), [])⟩
theorem rOf_ok : SpecOk Try.prog 67 rOfS := by
  refine spec_of (s := rOfS) Try.func67 rfl (by decide) fun d hp ρ X w vs hX hm => ?_
  obtain ⟨x, rfl, h1⟩ := args1 hm
  obtain ⟨rfl, h2⟩ := m_int h1
  simp only [inR, lo, hi] at h2
  exact ret_new (rOf _ w h2.1 (by omega)) hX
end Go.Proofs.Ytfidddcjieoblaa.Gx
