/-
  Contracts of the functions on natural numbers, on data.
-/
import Derived.Test.YtadoinponngdiaaD1
import Derived.Test.YtadoinponngdiaaMRefH
import Derived.Test.YtadoinponngdiaaMSame
import Derived.Test.YtadoinponngdiaaMText
namespace Go.Proofs.Ytadoinponngdiaa.Gx
open Go Go.RowKit Tw B Nt
set_option linter.unusedVariables false

theorem inR_cmp (x y : Int) : inR .i64 (cmpI x y) := by
  unfold cmpI; split
  · decide
  · split <;> decide
theorem m_i64 {ρ : List Value} {X : Nat → Prop} {w : World} {n : Int} (h0 : -9223372036854775808 ≤ n) (h1 : n ≤ 9223372036854775807) : m ρ X w (.dat (.int .i64) n) [.int .i64 n] := m_int_of ⟨h0, h1⟩
theorem blen_le {l : List Int} (h : Ds l) : (blen (N l) : Int) ≤ 32 * l.length := by
  have h1 := N_lt h
  rw [Bp_pow] at h1
  have := blen_lt (N_nonneg h) (32 * l.length) h1
  omega
def u64v (n : Int) : Int := if n < 18446744073709551616 then n else 0
theorem m_u64R {ρ : List Value} {X : Nat → Prop} {w : World} {n : Int} (h0 : 0 ≤ n) : m ρ X w (.tup (.cons (.dat (.int .u64) (u64v n)) (.cons (.dat .bool (decide (n < 18446744073709551616))) .nil))) [u64R n] := by
  unfold u64R u64v
  by_cases h : n < 18446744073709551616
  · rw [if_pos h, if_pos h, decide_eq_true h]
    exact tup2 (m_int_of (by simp only [inR, lo, hi]; omega)) m_bool_of
  · rw [if_neg h, if_neg h, decide_eq_false h]
    exact tup2 (m_int_of (by simp only [inR, lo, hi]; omega)) m_bool_of

@[go_sem] def bGCDS : Spec := ⟨[nT, nT], fun d => (.dat nT (dg (gcdI (N d.1) (N d.2.1))), [d.1.length ≤ 5000000, d.2.1.length ≤ 5000000])⟩
theorem bGCD_ok : SpecOk Try.prog 52 bGCDS := by
  refine spec_of (s := bGCDS) Try.func52 rfl (by decide) fun d hp ρ X w vs hX hm => ?_
  obtain ⟨x, y, rfl, h1, h2⟩ := args2 hm
  exact ret_new (gcd x y 5000000 _ _ w (num_of h1 _ hp.1) (num_of h2 _ hp.2.1) (by decide)) hX
@[go_sem] def bNormS : Spec := ⟨[nT], fun d => (.dat nT (dg (N d.1)), [d.1.length ≤ 5000000])⟩
theorem bNorm_ok : SpecOk Try.prog 57 bNormS := by
  refine spec_of (s := bNormS) Try.func57 rfl (by decide) fun d hp ρ X w vs hX hm => ?_
  obtain ⟨x, rfl, h1⟩ := args1 hm
  exact ret_new (normalize x 5000000 _ w (num_of h1 _ hp.1) (by decide)) hX
@[go_sem] def bDivModS : Spec := ⟨[nT, nT], fun d => (.tup (.cons (.dat nT (dg (N d.1 / N d.2.1))) (.cons (.dat nT (dg (if N d.2.1 = 0 then 0 else N d.1 % N d.2.1))) (.cons (.dat .bool (decide (N d.2.1 ≠ 0))) .nil))), [d.1.length ≤ 5000000, d.2.1.length ≤ 5000000])⟩
theorem bDivMod_ok : SpecOk Try.prog 58 bDivModS := by
  refine spec_of (s := bDivModS) Try.func58 rfl (by decide) fun d hp ρ X w vs hX hm => ?_
  obtain ⟨x, y, rfl, h1, h2⟩ := args2 hm
  refine (divMod x y 5000000 _ _ w (num_of h1 _ hp.1) (num_of h2 _ hp.2.1) (by decide)).mono fun e w' ⟨v, v2, g1, g2, g3, g4⟩ => ⟨_, g1, tup3 (dat_of_new g2 hX) (dat_of_new g3 hX) m_bool_of, g4⟩
@[go_sem] def bCmpS : Spec := ⟨[nT, nT], fun d => (.dat (.int .i64) (cmpI (N d.1) (N d.2.1)), [d.1.length ≤ 5000000, d.2.1.length ≤ 5000000])⟩
theorem bCmp_ok : SpecOk Try.prog 65 bCmpS := by
  refine spec_of (s := bCmpS) Try.func65 rfl (by decide) fun d hp ρ X w vs hX hm => ?_
  obtain ⟨x, y, rfl, h1, h2⟩ := args2 hm
  exact (cmp x y 5000000 _ _ w (num_of h1 _ hp.1) (num_of h2 _ hp.2.1) (by decide)).mono fun e w' ⟨g1, g2⟩ => ⟨_, g1, m_int_of (inR_cmp _ _), g2⟩
@[go_sem] def bBitsS : Spec := ⟨[nT], fun d => (.dat (.int .i64) (blen (N d.1) : Int), [d.1.length ≤ 5000000])⟩
theorem bBits_ok : SpecOk Try.prog 33 bBitsS := by
  refine spec_of (s := bBitsS) Try.func33 rfl (by decide) fun d hp ρ X w vs hX hm => ?_
  obtain ⟨x, rfl, h1⟩ := args1 hm
  have hb := blen_le (ds_of h1)
  have hl := hp.1
  exact (Nt.bitLen x 5000000 _ w (num_of h1 _ hp.1) (by decide)).mono fun e w' ⟨g1, g2⟩ => ⟨_, g1, m_i64 (by omega) (by omega), by rw [← g2]; exact Below.refl _ _⟩
@[go_sem] def bU64S : Spec := ⟨[nT], fun d => (.tup (.cons (.dat (.int .u64) (u64v (N d.1))) (.cons (.dat .bool (decide (N d.1 < 18446744073709551616))) .nil)), [d.1.length ≤ 5000000])⟩
theorem bU64_ok : SpecOk Try.prog 68 bU64S := by
  refine spec_of (s := bU64S) Try.func68 rfl (by decide) fun d hp ρ X w vs hX hm => ?_
  obtain ⟨x, rfl, h1⟩ := args1 hm
  exact (uint64 x 5000000 _ w (num_of h1 _ hp.1)).mono fun e w' ⟨g1, g2⟩ => ⟨_, g1, m_u64R (N_nonneg (ds_of h1)), g2⟩
@[go_sem] def bOfS : Spec := ⟨[.int .u64], fun d => (.dat nT (dg d.1), [])⟩
theorem bOf_ok : SpecOk Try.prog 64 bOfS := by
  refine spec_of (s := bOfS) Try.func64 rfl (by decide) fun d hp ρ X w vs hX hm => ?_
  obtain ⟨x, rfl, h1⟩ := args1 hm
  obtain ⟨rfl, h2⟩ := m_int h1
  simp only [inR, lo, hi] at h2
  exact ret_new (fromUint64 _ w h2.1 (by omega)) hX
@[go_sem] def rGCDS : Spec := ⟨[nT, nT], fun d => (.dat nT (dg (gcdI (N d.1) (N d.2.1))), [d.1.length ≤ 5000000, d.2.1.length ≤ 5000000])⟩
theorem rGCD_ok : SpecOk Try.prog 53 rGCDS := by
  refine spec_of (s := rGCDS) Try.func53 rfl (by decide) fun d hp ρ X w vs hX hm => ?_
  obtain ⟨x, y, rfl, h1, h2⟩ := args2 hm
  exact ret_new (rGCD x y 5000000 _ _ w (num_of h1 _ hp.1) (num_of h2 _ hp.2.1) (by decide)) hX
@[go_sem] def rNormS : Spec := ⟨[nT], fun d => (.dat nT (dg (N d.1)), [d.1.length ≤ 5000000])⟩
theorem rNorm_ok : SpecOk Try.prog 29 rNormS := by
  refine spec_of (s := rNormS) Try.func29 rfl (by decide) fun d hp ρ X w vs hX hm => ?_
  obtain ⟨x, rfl, h1⟩ := args1 hm
  exact ret_new (rNorm x 5000000 _ w (num_of h1 _ hp.1) (by decide)) hX
@[go_sem] def rSubS : Spec := ⟨[nT, nT], fun d => (.tup (.cons (.dat nT (dg (if N d.2.1 ≤ N d.1 then N d.1 - N d.2.1 else 0))) (.cons (.dat .bool (decide (N d.2.1 ≤ N d.1))) .nil)), [d.1.length ≤ 5000000, d.2.1.length ≤ 5000000])⟩
theorem rSub_ok : SpecOk Try.prog 62 rSubS := by
  refine spec_of (s := rSubS) Try.func62 rfl (by decide) fun d hp ρ X w vs hX hm => ?_
  obtain ⟨x, y, rfl, h1, h2⟩ := args2 hm
  refine (rSub x y 5000000 _ _ w (num_of h1 _ hp.1) (num_of h2 _ hp.2.1) (by decide)).mono fun e w' ⟨v, g1, g2, g3⟩ => ⟨_, g1, tup2 (dat_of_new g2 hX) m_bool_of, g3⟩
@[go_sem] def rDivModS : Spec := ⟨[nT, nT], fun d => (.tup (.cons (.dat nT (dg (N d.1 / N d.2.1))) (.cons (.dat nT (dg (if N d.2.1 = 0 then 0 else N d.1 % N d.2.1))) (.cons (.dat .bool (decide (N d.2.1 ≠ 0))) .nil))), [d.1.length ≤ 5000000, d.2.1.length ≤ 5000000])⟩
theorem rDivMod_ok : SpecOk Try.prog 54 rDivModS := by
  refine spec_of (s := rDivModS) Try.func54 rfl (by decide) fun d hp ρ X w vs hX hm => ?_
  obtain ⟨x, y, rfl, h1, h2⟩ := args2 hm
  refine (rDivMod x y 5000000 _ _ w (num_of h1 _ hp.1) (num_of h2 _ hp.2.1) (by decide)).mono fun e w' ⟨v, v2, g1, g2, g3, g4⟩ => ⟨_, g1, tup3 (dat_of_new g2 hX) (dat_of_new g3 hX) m_bool_of, g4⟩
@[go_sem] def rCmpS : Spec := ⟨[nT, nT], fun d => (.dat (.int .i64) (cmpI (N d.1) (N d.2.1)), [d.1.length ≤ 5000000, d.2.1.length ≤ 5000000])⟩
theorem rCmp_ok : SpecOk Try.prog 61 rCmpS := by
  refine spec_of (s := rCmpS) Try.func61 rfl (by decide) fun d hp ρ X w vs hX hm => ?_
  obtain ⟨x, y, rfl, h1, h2⟩ := args2 hm
  exact (rCmp x y 5000000 _ _ w (num_of h1 _ hp.1) (num_of h2 _ hp.2.1) (by decide)).mono fun e w' ⟨g1, g2⟩ => ⟨_, g1, m_int_of (inR_cmp _ _), g2⟩
@[go_sem] def rOfS : Spec := ⟨[.int .u64], fun d => (.dat nT (dg d.1), [])⟩
theorem rOf_ok : SpecOk Try.prog 55 rOfS := by
  refine spec_of (s := rOfS) Try.func55 rfl (by decide) fun d hp ρ X w vs hX hm => ?_
  obtain ⟨x, rfl, h1⟩ := args1 hm
  obtain ⟨rfl, h2⟩ := m_int h1
  simp only [inR, lo, hi] at h2
  exact ret_new (rOf _ w h2.1 (by omega)) hX
@[go_sem] def rSameS : Spec := ⟨[nT, nT], fun d => (.dat .bool (decide (d.1 = d.2.1)), [])⟩
theorem rSame_ok : SpecOk Try.prog 28 rSameS := by
  refine spec_of (s := rSameS) Try.func28 rfl (by decide) fun d hp ρ X w vs hX hm => ?_
  obtain ⟨x, y, rfl, h1, h2⟩ := args2 hm
  exact (natSame x y _ _ w (row_of (rep_of_dat rfl h1)) (row_of (rep_of_dat rfl h2))).mono fun e w' ⟨g1, g2⟩ => ⟨_, g1, m_bool_of, g2⟩
@[go_sem] def bNatS : Spec := ⟨[nT], fun d => (.dat nT (bnat d.1), [])⟩
theorem bNat_ok : SpecOk Try.prog 9 bNatS := by
  refine spec_of (s := bNatS) Try.func9 rfl (by decide) fun d hp ρ X w vs hX hm => ?_
  obtain ⟨x, rfl, h1⟩ := args1 hm
  exact (baseNatF x _ w (row_of (rep_of_dat rfl h1))).mono fun e w' ⟨v, g1, g2, g3, g4⟩ => ⟨_, g1, dat_of_rep rfl (rep_of_row g2 g4 hX), g3⟩
end Go.Proofs.Ytadoinponngdiaa.Gx
