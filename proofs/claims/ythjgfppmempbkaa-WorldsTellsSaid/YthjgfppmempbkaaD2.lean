/-
  Contracts of the functions on natural numbers, on data.
-/
import Derived.Test.YthjgfppmempbkaaD1
import Derived.Test.YthjgfppmempbkaaMRefH
import Derived.Test.YthjgfppmempbkaaMSame
import Derived.Test.YthjgfppmempbkaaMText
namespace Go.Proofs.Ythjgfppmempbkaa.Gx
open Go Go.RowKit Tw B Nt
set_option linter.unusedVariables false

theorem inR_cmp (x y : Int) : inR .i64 (cmpI x y) := by
  unfold cmpI; split
  · decide
  · split <;> decide
theorem m_i64 {ρ : List Value} {X : Nat → Prop} {w : World} {n : Int} (h0 : -9223372036854775808 ≤ n) (h1 : n ≤ 9223372036854775807) : m ρ X w (.dat (.int .i64) n) [.int .i64 n] := m_int_of ⟨h0, h1⟩
theorem blen_le {l : List Int} (h : Ds l) : (blen (N l) : Int) ≤ 32 * l.length := by
  have h1 := N_lt h
  rw [Bp_pow] at h1
  have := blen_lt (N_nonneg h) (32 * l.length) h1
  omega
def u64v (n : Int) : Int := if n < 18446744073709551616 then n else 0
theorem m_u64R {ρ : List Value} {X : Nat → Prop} {w : World} {n : Int} (h0 : 0 ≤ n) : m ρ X w (.tup (.cons (.dat (.int .u64) (u64v n)) (.cons (.dat .bool (decide (n < 18446744073709551616))) .nil))) [u64R n] := by
  unfold u64R u64v
  by_cases h : n < 18446744073709551616
  · rw [if_pos h, if_pos h, decide_eq_true h]
    exact tup2 (m_int_of (by simp only [inR, lo, hi]; omega)) m_bool_of
  · rw [if_neg h, if_neg h, decide_eq_false h]
    exact tup2 (m_int_of (by simp only [inR, lo, hi]; omega)) m_bool_of

@[go_sem] def bAddS : Spec := ⟨[nT, nT], fun d => (.dat nT (dg (N d.1 + N d.2.1)), [d.1.length ≤ 5000000, d.2.1.length ≤ 5000000])⟩
theorem bAdd_ok : SpecOk Try.prog 15 bAddS := by
  refine spec_of (s := bAddS) Try.func15 rfl (by decide) fun d hp ρ X w vs hX hm => ?_
  obtain ⟨x, y, rfl, h1, h2⟩ := args2 hm
  exact ret_new (add x y 5000000 _ _ w (num_of h1 _ hp.1) (num_of h2 _ hp.2.1) (by decide)) hX
@[go_sem] def bMulS : Spec := ⟨[nT, nT], fun d => (.dat nT (dg (N d.1 * N d.2.1)), [d.1.length ≤ 5000000, d.2.1.length ≤ 5000000])⟩
theorem bMul_ok : SpecOk Try.prog 29 bMulS := by
  refine spec_of (s := bMulS) Try.func29 rfl (by decide) fun d hp ρ X w vs hX hm => ?_
  obtain ⟨x, y, rfl, h1, h2⟩ := args2 hm
  exact ret_new (mul x y 5000000 _ _ w (num_of h1 _ hp.1) (num_of h2 _ hp.2.1) (by decide)) hX
@[go_sem] def bGCDS : Spec := ⟨[nT, nT], fun d => (.dat nT (dg (gcdI (N d.1) (N d.2.1))), [d.1.length ≤ 5000000, d.2.1.length ≤ 5000000])⟩
theorem bGCD_ok : SpecOk Try.prog 87 bGCDS := by
  refine spec_of (s := bGCDS) Try.func87 rfl (by decide) fun d hp ρ X w vs hX hm => ?_
  obtain ⟨x, y, rfl, h1, h2⟩ := args2 hm
  exact ret_new (gcd x y 5000000 _ _ w (num_of h1 _ hp.1) (num_of h2 _ hp.2.1) (by decide)) hX
@[go_sem] def bNormS : Spec := ⟨[nT], fun d => (.dat nT (dg (N d.1)), [d.1.length ≤ 5000000])⟩
theorem bNorm_ok : SpecOk Try.prog 49 bNormS := by
  refine spec_of (s := bNormS) Try.func49 rfl (by decide) fun d hp ρ X w vs hX hm => ?_
  obtain ⟨x, rfl, h1⟩ := args1 hm
  exact ret_new (normalize x 5000000 _ w (num_of h1 _ hp.1) (by decide)) hX
@[go_sem] def bSubS : Spec := ⟨[nT, nT], fun d => (.tup (.cons (.dat nT (dg (if N d.2.1 ≤ N d.1 then N d.1 - N d.2.1 else 0))) (.cons (.dat .bool (decide (N d.2.1 ≤ N d.1))) .nil)), [d.1.length ≤ 5000000, d.2.1.length ≤ 5000000])⟩
theorem bSub_ok : SpecOk Try.prog 63 bSubS := by
  refine spec_of (s := bSubS) Try.func63 rfl (by decide) fun d hp ρ X w vs hX hm => ?_
  obtain ⟨x, y, rfl, h1, h2⟩ := args2 hm
  refine (sub x y 5000000 _ _ w (num_of h1 _ hp.1) (num_of h2 _ hp.2.1) (by decide)).mono fun e w' ⟨v, g1, g2, g3⟩ => ⟨_, g1, tup2 (dat_of_new g2 hX) m_bool_of, g3⟩
@[go_sem] def bDivModS : Spec := ⟨[nT, nT], fun d => (.tup (.cons (.dat nT (dg (N d.1 / N d.2.1))) (.cons (.dat nT (dg (if N d.2.1 = 0 then 0 else N d.1 % N d.2.1))) (.cons (.dat .bool (decide (N d.2.1 ≠ 0))) .nil))), [d.1.length ≤ 5000000, d.2.1.length ≤ 5000000])⟩
theorem bDivMod_ok : SpecOk Try.prog 11 bDivModS := by
  refine spec_of (s := bDivModS) Try.func11 rfl (by decide) fun d hp ρ X w vs hX hm => ?_
  obtain ⟨x, y, rfl, h1, h2⟩ := args2 hm
  refine (divMod x y 5000000 _ _ w (num_of h1 _ hp.1) (num_of h2 _ hp.2.1) (by decide)).mono fun e w' ⟨v, v2, g1, g2, g3, g4⟩ => ⟨_, g1, tup3 (dat_of_new g2 hX) (dat_of_new g3 hX) m_bool_of, g4⟩
@[go_sem] def bCmpS : Spec := ⟨[nT, nT], fun d => (.dat (.int .i64) (cmpI (N d.1) (N d.2.1)), [d.1.length ≤ 5000000, d.2.1.length ≤ 5000000])⟩
theorem bCmp_ok : SpecOk Try.prog 19 bCmpS := by
  refine spec_of (s := bCmpS) Try.func19 rfl (by decide) fun d hp ρ X w vs hX hm => ?_
  obtain ⟨x, y, rfl, h1, h2⟩ := args2 hm
  exact (cmp x y 5000000 _ _ w (num_of h1 _ hp.1) (num_of h2 _ hp.2.1) (by decide)).mono fun e w' ⟨g1, g2⟩ => ⟨_, g1, m_int_of (inR_cmp _ _), g2⟩
@[go_sem] def bBitsS : Spec := ⟨[nT], fun d => (.dat (.int .i64) (blen (N d.1) : Int), [d.1.length ≤ 5000000])⟩
theorem bBits_ok : SpecOk Try.prog 85 bBitsS := by
  refine spec_of (s := bBitsS) Try.func85 rfl (by decide) fun d hp ρ X w vs hX hm => ?_
  obtain ⟨x, rfl, h1⟩ := args1 hm
  have hb := blen_le (ds_of h1)
  have hl := hp.1
  exact (Nt.bitLen x 5000000 _ w (num_of h1 _ hp.1) (by decide)).mono fun e w' ⟨g1, g2⟩ => ⟨_, g1, m_i64 (by omega) (by omega), by rw [← g2]; exact Below.refl _ _⟩
@[go_sem] def bU64S : Spec := ⟨[nT], fun d => (.tup (.cons (.dat (.int .u64) (u64v (N d.1))) (.cons (.dat .bool (decide (N d.1 < 18446744073709551616))) .nil)), [d.1.length ≤ 5000000])⟩
theorem bU64_ok : SpecOk Try.prog 52 bU64S := by
  refine spec_of (s := bU64S) Try.func52 rfl (by decide) fun d hp ρ X w vs hX hm => ?_
  obtain ⟨x, rfl, h1⟩ := args1 hm
  exact (uint64 x 5000000 _ w (num_of h1 _ hp.1)).mono fun e w' ⟨g1, g2⟩ => ⟨_, g1, m_u64R (N_nonneg (ds_of h1)), g2⟩
@[go_sem] def bOfS : Spec := ⟨[.int .u64], fun d => (.dat nT (dg d.1), [])⟩
theorem bOf_ok : SpecOk Try.prog 46 bOfS := by
  refine spec_of (s := bOfS) Try.func46 rfl (by decide) fun d hp ρ X w vs hX hm => ?_
  obtain ⟨x, rfl, h1⟩ := args1 hm
  obtain ⟨rfl, h2⟩ := m_int h1
  simp only [inR, lo, hi] at h2
  exact ret_new (fromUint64 _ w h2.1 (by omega)) hX
@[go_sem] def rAddS : Spec := ⟨[nT, nT], fun d => (.dat nT (dg (N d.1 + N d.2.1)), [d.1.length ≤ 5000000, d.2.1.length ≤ 5000000])⟩
theorem rAdd_ok : SpecOk Try.prog 69 rAddS := by
  refine spec_of (s := rAddS) Try.func69 rfl (by decide) fun d hp ρ X w vs hX hm => ?_
  obtain ⟨x, y, rfl, h1, h2⟩ := args2 hm
  exact ret_new (rAdd x y 5000000 _ _ w (num_of h1 _ hp.1) (num_of h2 _ hp.2.1) (by decide)) hX
@[go_sem] def rMulS : Spec := ⟨[nT, nT], fun d => (.dat nT (dg (N d.1 * N d.2.1)), [d.1.length ≤ 5000000, d.2.1.length ≤ 5000000])⟩
theorem rMul_ok : SpecOk Try.prog 70 rMulS := by
  refine spec_of (s := rMulS) Try.func70 rfl (by decide) fun d hp ρ X w vs hX hm => ?_
  obtain ⟨x, y, rfl, h1, h2⟩ := args2 hm
  exact ret_new (rMul x y 5000000 _ _ w (num_of h1 _ hp.1) (num_of h2 _ hp.2.1) (by decide)) hX
@[go_sem] def rGCDS : Spec := ⟨[nT, nT], fun d => (.dat nT (dg (gcdI (N d.1) (N d.2.1))), [d.1.length ≤ 5000000, d.2.1.length ≤ 5000000])⟩
theorem rGCD_ok : SpecOk Try.prog 94 rGCDS := by
  refine spec_of (s := rGCDS) Try.func94 rfl (by decide) fun d hp ρ X w vs hX hm => ?_
  obtain ⟨x, y, rfl, h1, h2⟩ := args2 hm
  exact ret_new (rGCD x y 5000000 _ _ w (num_of h1 _ hp.1) (num_of h2 _ hp.2.1) (by decide)) hX
@[go_sem] def rNormS : Spec := ⟨[nT], fun d => (.dat nT (dg (N d.1)), [d.1.length ≤ 5000000])⟩
theorem rNorm_ok : SpecOk Try.prog 90 rNormS := by
  refine spec_of (s := rNormS) Try.func90 rfl (by decide) fun d hp ρ X w vs hX hm => ?_
  obtain ⟨x, rfl, h1⟩ := args1 hm
  exact ret_new (rNorm x 5000000 _ w (num_of h1 _ hp.1) (by decide)) hX
@[go_sem] def rSubS : Spec := ⟨[nT, nT], fun d => (.tup (.cons (.dat nT (dg (if N d.2.1 ≤ N d.1 then N d.1 - N d.2.1 else 0))) (.cons (.dat .bool (decide (N d.2.1 ≤ N d.1))) .nil)), [d.1.length ≤ 5000000, d.2.1.length ≤ 5000000])⟩
theorem rSub_ok : SpecOk Try.prog 100 rSubS := by
  refine spec_of (s := rSubS) Try.func100 rfl (by decide) fun d hp ρ X w vs hX hm => ?_
  obtain ⟨x, y, rfl, h1, h2⟩ := args2 hm
  refine (rSub x y 5000000 _ _ w (num_of h1 _ hp.1) (num_of h2 _ hp.2.1) (by decide)).mono fun e w' ⟨v, g1, g2, g3⟩ => ⟨_, g1, tup2 (dat_of_new g2 hX) m_bool_of, g3⟩
@[go_sem] def rDivModS : Spec := ⟨[nT, nT], fun d => (.tup (.cons (.dat nT (dg (N d.1 / N d.2.1))) (.cons (.dat nT (dg (if N d.2.1 = 0 then 0 else N d.1 % N d.2.1))) (.cons (.dat .bool (decide (N d.2.1 ≠ 0))) .nil))), [d.1.length ≤ 5000000, d.2.1.length ≤ 5000000])⟩
theorem rDivMod_ok : SpecOk Try.prog 95 rDivModS := by
  refine spec_of (s := rDivModS) Try.func95 rfl (by decide) fun d hp ρ X w vs hX hm => ?_
  obtain ⟨x, y, rfl, h1, h2⟩ := args2 hm
  refine (rDivMod x y 5000000 _ _ w (num_of h1 _ hp.1) (num_of h2 _ hp.2.1) (by decide)).mono fun e w' ⟨v, v2, g1, g2, g3, g4⟩ => ⟨_, g1, tup3 (dat_of_new g2 hX) (dat_of_new g3 hX) m_bool_of, g4⟩
@[go_sem] def rCmpS : Spec := ⟨[nT, nT], fun d => (.dat (.int .i64) (cmpI (N d.1) (N d.2.1)), [d.1.length ≤ 5000000, d.2.1.length ≤ 5000000])⟩
theorem rCmp_ok : SpecOk Try.prog 99 rCmpS := by
  refine spec_of (s := rCmpS) Try.func99 rfl (by decide) fun d hp ρ X w vs hX hm => ?_
  obtain ⟨x, y, rfl, h1, h2⟩ := args2 hm
  exact (rCmp x y 5000000 _ _ w (num_of h1 _ hp.1) (num_of h2 _ hp.2.1) (by decide)).mono fun e w' ⟨g1, g2⟩ => ⟨_, g1, m_int_of (inR_cmp _ _), g2⟩
@[go_sem] def rOfS : Spec := ⟨[.int .u64], fun d => (.dat nT (dg d.1), [])⟩
theorem rOf_ok : SpecOk Try.prog 71 rOfS := by
  refine spec_of (s := rOfS) Try.func71 rfl (by decide) fun d hp ρ X w vs hX hm => ?_
  obtain ⟨x, rfl, h1⟩ := args1 hm
  obtain ⟨rfl, h2⟩ := m_int h1
  simp only [inR, lo, hi] at h2
  exact ret_new (rOf _ w h2.1 (by omega)) hX
@[go_sem] def rSameS : Spec := ⟨[nT, nT], fun d => (.dat .bool (decide (d.1 = d.2.1)), [])⟩
theorem rSame_ok : SpecOk Try.prog 17 rSameS := by
  refine spec_of (s := rSameS) Try.func17 rfl (by decide) fun d hp ρ X w vs hX hm => ?_
  obtain ⟨x, y, rfl, h1, h2⟩ := args2 hm
  exact (natSame x y _ _ w (row_of (rep_of_dat rfl h1)) (row_of (rep_of_dat rfl h2))).mono fun e w' ⟨g1, g2⟩ => ⟨_, g1, m_bool_of, g2⟩
@[go_sem] def bNatS : Spec := ⟨[nT], fun d => (.dat nT (bnat d.1), [])⟩
theorem bNat_ok : SpecOk Try.prog 12 bNatS := by
  refine spec_of (s := bNatS) Try.func12 rfl (by decide) fun d hp ρ X w vs hX hm => ?_
  obtain ⟨x, rfl, h1⟩ := args1 hm
  exact (baseNatF x _ w (row_of (rep_of_dat rfl h1))).mono fun e w' ⟨v, g1, g2, g3, g4⟩ => ⟨_, g1, dat_of_rep rfl (rep_of_row g2 g4 hX), g3⟩
end Go.Proofs.Ythjgfppmempbkaa.Gx
