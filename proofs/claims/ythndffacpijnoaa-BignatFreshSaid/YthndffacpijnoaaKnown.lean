/-
  credencelaw1.known answers true.
-/
import Derived.Test.YthndffacpijnoaaSame
namespace Go.Proofs.Ythndffacpijnoaa.Nt
open Go.ChangeShapes Go.WideShapes Go.ChangeAt Go.RowKit B
set_option linter.unusedVariables false

def K128 : Int := 340282366920938463463374607431768211456
def kText : ByteArray := ⟨#[51, 52, 48, 50, 56, 50, 51, 54, 54, 57, 50, 48, 57, 51, 56, 52, 54, 51, 52, 54, 51, 51, 55, 52, 54, 48, 55, 52, 51, 49, 55, 54, 56, 50, 49, 49, 52, 53, 54]⟩
def kDigits : List Int := [6, 5, 4, 1, 1, 2, 8, 6, 7, 1, 3, 4, 7, 0, 6, 4, 7, 3, 3, 6, 4, 3, 6, 4, 8, 3, 9, 0, 2, 9, 6, 6, 3, 2, 8, 2, 0, 4, 3]
theorem k_code : pcode kText.data.toList = 0 := by decide +kernel
theorem k_val : pval kText.data.toList = K128 := by decide +kernel
theorem k_dec : IsDec kText K128 := .inr ⟨by decide, kDigits, ⟨by unfold D10; decide, by decide⟩, by decide +kernel, rfl⟩
theorem k_blen : blen K128 = 129 := blen_of (by decide) (by decide +kernel) (by decide +kernel)
theorem k_len {l : List Int} (h : Canon l) (e : N l = K128) : l.length = 5 := by
  have h1 := h.len 5 (by rw [e]; decide +kernel)
  rcases Nat.lt_or_ge l.length 5 with h2 | h2
  · exfalso
    have := N_lt h.1
    have h3 := Bp_mono (show l.length ≤ 4 by omega)
    have h4 : Bp 4 = K128 := by decide +kernel
    omega
  · omega
theorem k_back : K128 / 1000000007 * 1000000007 + K128 % 1000000007 = K128 := Int.ediv_mul_add_emod ..
theorem k_lt : K128 < Bp 8 ∧ K128 / 1000000007 < Bp 8 ∧ K128 % 1000000007 < Bp 8 ∧ (1000000007 : Int) < Bp 8 ∧ K128 / 1000000007 * 1000000007 < Bp 8 := by decide +kernel

set_option maxHeartbeats 1000000 in
set_option maxRecDepth 10000 in
theorem known (w : World) : Calls Try.prog 18 #[] w fun e w' => e = .returned (.bool true) ∧ Below w.heap.size w w' := by
  go_enter Try.func18, Try.ntmps18
  go_wp2_with fail
  refine (parse kText w (by decide)).mono ?_
  rintro e w1 ⟨va, rfl, ha, hb1⟩
  rw [k_code]
  rw [k_val] at ha
  have HA := Lib.hid ha
  obtain ⟨la, ra, ca, na, _⟩ := ha
  have HK := Lib.hid (And.intro ca na)
  obtain ⟨a1, p1, rfl, g1, m1, _⟩ := Row.parts ra
  have hl5 := k_len ca na
  rw [hl5] at HA ⊢
  clear ra ca na g1 hl5
  go_wp2_with fail
  refine (fromUint64 1000000007 w1 (by decide) (by decide)).mono ?_
  rintro e w2 ⟨vp, rfl, hp, hb2⟩
  have HP := Lib.hid hp
  clear hp
  go_wp2_with fail
  refine (divMod _ _ 8 K128 1000000007 w2 ((HA.out.keep hb2).num 8 k_lt.1) (HP.out.num 8 k_lt.2.2.2.1) (by decide)).mono ?_
  rintro e w3 ⟨vq, vr, rfl, hq, hr, hb3⟩
  rw [if_neg (by decide)] at hr
  have HQ := Lib.hid (And.intro hq hr)
  have HA3 := Lib.hid ((HA.out.keep hb2).keep hb3)
  clear hq hr HA
  have ht : decide ((1000000007 : Int) ≠ 0) = true := rfl
  rw [ht]
  clear ht
  have hs1 := hb1.size
  have hs2 := hb2.size
  have hs3 := hb3.size
  go_wp2_with fail
  refine (bitLen _ 8 K128 w3 (HA3.out.num 8 k_lt.1) (by decide)).mono ?_
  rintro e w' ⟨rfl, hw'⟩
  obtain rfl := hw'
  rw [k_blen]
  go_wp2_with fail
  refine (fromUint64 1000000007 w3 (by decide) (by decide)).mono ?_
  rintro e w4 ⟨vp2, rfl, hp2, hb4⟩
  have HP2 := Lib.hid hp2
  clear hp2
  go_wp2_with fail
  refine (mul _ _ 8 (K128 / 1000000007) 1000000007 w4 ((HQ.out.1.keep hb4).num 8 k_lt.2.1) (HP2.out.num 8 k_lt.2.2.2.1) (by decide)).mono ?_
  rintro e w5 ⟨vm, rfl, hm, hb5⟩
  have HM := Lib.hid hm
  clear hm
  go_wp2_with fail
  refine (add _ _ 8 _ (K128 % 1000000007) w5 (HM.out.num 8 k_lt.2.2.2.2) (((HQ.out.2.keep hb4).keep hb5).num 8 k_lt.2.2.1) (by decide)).mono ?_
  rintro e w6 ⟨vs, rfl, hs, hb6⟩
  rw [k_back] at hs
  have HS := Lib.hid hs
  clear hs
  go_wp2_with fail
  refine (format _ 8 K128 w6 (HS.out.num 8 k_lt.1) (by decide)).mono ?_
  rintro e w7 ⟨s, rfl, hd, hb7⟩
  obtain rfl := hd.unique k_dec
  have hs4 := hb4.size
  have hs5 := hb5.size
  have hs6 := hb6.size
  unfold kText
  go_wp2_with fail
  go_ret
  exact ⟨rfl, ((((((hb1.trans (hb2.mono hs1)).trans (hb3.mono (by omega))).trans (hb4.mono (by omega))).trans (hb5.mono (by omega))).trans (hb6.mono (by omega))).trans (hb7.mono (by omega)))⟩
end Go.Proofs.Ythndffacpijnoaa.Nt
