/-
  Contracts of bignat.DivMod, gcdSmall and GCD.
-/
import Derived.Test.YtpplleoiehnlkaaLong
import Derived.Deep.LoopGhost
namespace Go.Proofs.Ytpplleoiehnlkaa.Nt
open Go.ChangeShapes Go.WideShapes Go.ChangeAt Go.RowKit B
set_option linter.unusedVariables false

/-- quotient, remainder, and whether the divisor is not 0 -/
def RetDM (base : Nat) (w : World) (x y : Int) (e : Ending) (w' : World) : Prop :=
  ∃ vq vr, e = .returned (.tuple #[vq, vr, .bool (decide (y ≠ 0))]) ∧ IsNew base w' vq (x / y) ∧ IsNew base w' vr (if y = 0 then 0 else x % y) ∧ Below base w w'

set_option maxHeartbeats 1000000 in
theorem divMod (va vb : Value) (c : Nat) (x y : Int) (w : World) (ha : Num w va c x) (hb : Num w vb c y) (hc : c ≤ 4294967296) :
    Calls Try.prog 76 #[va, vb] w (RetDM w.heap.size w x y) := by
  have HX := Lib.hid ha.nonneg
  have HY := Lib.hid hb.nonneg
  obtain ⟨la, hra, hla, rfl⟩ := ha
  obtain ⟨lb, hrb, hlb, rfl⟩ := hb
  have HA := Lib.hid hra
  have HB := Lib.hid hrb
  clear hra hrb
  go_enter Try.func76, Try.ntmps76
  go_wp2_with fail
  refine (trimR va la w HA.out).mono ?_
  rintro e w' ⟨v1, l1, rfl, r1, N1, C1, L1, _, rfl⟩
  go_wp2_with fail
  refine (trimR vb lb w HB.out).mono ?_
  rintro e w' ⟨v2, l2, rfl, r2, N2, C2, L2, _, rfl⟩
  clear HA HB
  have HN := Lib.hid (And.intro N1 N2)
  have HC := Lib.hid (And.intro C1 C2)
  have HR := Lib.hid (And.intro r1 r2)
  obtain ⟨a2, p2, rfl, g2, m2, c2⟩ := Row.parts r2
  have HC2 := Lib.hid c2
  clear r1 r2 N1 N2 C1 C2 c2
  by_cases h0 : l2.length = 0
  · have hz : ((l2.length : Int) == 0) = true := by rw [h0]; rfl
    have HZ := Lib.hid (show N lb = 0 by
      have : l2 = [] := List.eq_nil_of_length_eq_zero h0
      rw [← HN.out.2, this]; rfl)
    go_wp2_with fail
    go_ret3
    exact ⟨.slice none 0 0, .slice none 0 0, by rw [HZ.out]; rfl, by rw [HZ.out, Int.ediv_zero]; exact IsNew.nil _ _, by rw [if_pos HZ.out]; exact IsNew.nil _ _, Below.refl _ _⟩
  have hz : ((l2.length : Int) == 0) = false := by rw [beq_eq_false_iff_ne]; omega
  have hpos : 0 < N l2 := HC.out.2.pos (by rintro rfl; simp at h0)
  have HNZ := Lib.hid (show N lb ≠ 0 by rw [← HN.out.2]; omega)
  have HPOS := Lib.hid hpos
  clear hpos
  go_wp2_with fail
  refine (cmp v1 _ c (N l1) (N l2) w ⟨l1, HR.out.1, by omega, rfl⟩ ⟨l2, HR.out.2, by omega, rfl⟩ hc).mono ?_
  rintro e w0 ⟨rfl, hb0⟩
  by_cases hlt : N l1 < N l2
  · have e1 : cmpI (N l1) (N l2) = -1 := by rw [cmpI, if_pos hlt]
    rw [e1]
    have HF := Lib.hid (show N la / N lb = 0 ∧ N la % N lb = N la by
      rw [← HN.out.1, ← HN.out.2]
      have := N_nonneg HC.out.1.1
      exact ⟨Int.ediv_eq_zero_of_lt this hlt, Int.emod_eq_of_lt this hlt⟩)
    clear hlt e1
    go_wp2_with fail
    refine (normalize v1 c (N l1) w0 ⟨l1, HR.out.1.keep hb0, by omega, rfl⟩ hc).mono ?_
    rintro e w1 ⟨v, rfl, hn, hb1⟩
    rw [HN.out.1] at hn
    go_wp2_with fail
    go_ret3
    exact ⟨.slice none 0 0, v, by rw [decide_eq_true HNZ.out]; rfl, by rw [HF.out.1]; exact IsNew.nil _ _, by rw [if_neg HNZ.out, HF.out.2]; exact hn.mono hb0.size, hb0.trans (hb1.mono hb0.size)⟩
  · have hle : ¬ cmpI (N l1) (N l2) < 0 := by rw [cmpI, if_neg hlt]; split <;> omega
    have hll : l2.length ≤ l1.length := by
      rcases Nat.lt_or_ge l1.length l2.length with h | h
      · have := len_lt HC.out.1 HC.out.2 h; omega
      · exact h
    generalize cmpI (N l1) (N l2) = r at *
    clear hlt
    rcases hm : l2.length with _ | _ | n
    · omega
    · have h1 : ((1 : Nat) : Int) == 1 := rfl
      obtain ⟨b2, o2, rfl, q0, wd⟩ := HC2.out 0 (by omega)
      have q0 := cell_later hb0 q0
      have dd := wf_u32 wd
      have HD := Lib.hid (show l2[0]?.getD 0 = N l2 by
        rcases l2 with _ | ⟨y, _ | ⟨z, l⟩⟩
        · simp at hm
        · simp [N]
        · simp at hm)
      have hdp : (0 : Int) < l2[0]?.getD 0 := by rw [HD.out]; exact HPOS.out
      generalize l2[0]?.getD 0 = d at *
      rw [hm] at HR hz
      simp only [Nat.zero_add, Nat.add_zero] at q0 HR hz ⊢
      clear wd
      go_wp2_with fail
      refine (divDigit v1 c (N l1) d w0 ⟨l1, HR.out.1.keep hb0, by omega, rfl⟩ hc hdp dd.2).mono ?_
      rintro e w1 ⟨vq, rfl, hq, hb1⟩
      rw [HD.out, HN.out.1, HN.out.2] at hq
      have hrb : 0 ≤ N l1 % d ∧ N l1 % d < d := ⟨Int.emod_nonneg _ (by omega), Int.emod_lt_of_pos _ hdp⟩
      have HRD := Lib.hid (show N l1 % d = N la % N lb by rw [HD.out, HN.out.1, HN.out.2])
      generalize N l1 % d = rd at *
      obtain ⟨hr0, hr1⟩ := hrb
      have hr2 : rd < 18446744073709551616 := by omega
      go_wp2_with fail
      refine (fromUint64 rd w1 hr0 hr2).mono ?_
      rintro e w2 ⟨vr, rfl, hr, hb2⟩
      rw [HRD.out] at hr
      go_wp2_with fail
      go_ret3
      exact ⟨vq, vr, by rw [decide_eq_true HNZ.out]; rfl, (hq.keep hb2).mono hb0.size, by rw [if_neg HNZ.out]; exact hr.mono (Nat.le_trans hb0.size hb1.size), (hb0.trans (hb1.mono hb0.size)).trans (hb2.mono (Nat.le_trans hb0.size hb1.size))⟩
    · have h1 : (((n + 1 + 1 : Nat) : Int) == 1) = false := by rw [beq_eq_false_iff_ne]; omega
      have HM := Lib.hid hm
      rw [hm] at HR hz
      rw [hm] at hll
      have HLL := Lib.hid hll
      clear hm hll
      go_wp2_with fail
      refine (longDiv v1 _ l1 l2 n w0 (HR.out.1.keep hb0) (HR.out.2.keep hb0) HC.out.1 HC.out.2 HM.out (by rw [HM.out]; exact HLL.out) (by omega)).mono ?_
      rintro e w1 ⟨vq, vr, rfl, hq, hr, hb1⟩
      rw [HN.out.1, HN.out.2] at hq hr
      go_wp2_with fail
      go_ret3
      exact ⟨vq, vr, by rw [decide_eq_true HNZ.out]; rfl, hq.mono hb0.size, by rw [if_neg HNZ.out]; exact hr.mono hb0.size, hb0.trans (hb1.mono hb0.size)⟩

/-- the greatest common divisor -/
def gcdI (x y : Int) : Int := (Nat.gcd x.toNat y.toNat : Int)
theorem gcdI_step {x y : Int} (hx : 0 ≤ x) (hy : 0 ≤ y) : gcdI x y = gcdI y (x % y) := by
  obtain ⟨a, rfl⟩ := Int.eq_ofNat_of_zero_le hx
  obtain ⟨b, rfl⟩ := Int.eq_ofNat_of_zero_le hy
  unfold gcdI
  have : ((a : Int) % (b : Int)).toNat = a % b := by omega
  rw [this, Int.toNat_natCast, Int.toNat_natCast, Nat.gcd_comm a b, Nat.gcd_rec b a, Nat.gcd_comm]
theorem gcdI_zero {x : Int} (hx : 0 ≤ x) : gcdI x 0 = x := by
  obtain ⟨a, rfl⟩ := Int.eq_ofNat_of_zero_le hx
  simp [gcdI]

set_option maxHeartbeats 1000000 in
theorem gcdSmall (va vb : Value) (c : Nat) (x y : Int) (w : World) (ha : Num w va c x) (hb : Num w vb c y) (hx : x < 18446744073709551616) (hy : y < 18446744073709551616) :
    Calls Try.prog 85 #[va, vb] w (Ret1 w.heap.size w (gcdI x y)) := by
  have HA := Lib.hid ha
  have HB := Lib.hid hb
  have hx0 := ha.nonneg
  have hy0 := hb.nonneg
  clear ha hb
  go_enter Try.func85, Try.ntmps85
  go_wp2_with fail
  refine (uint64 va c x w HA.out).mono ?_
  rintro e w1 ⟨rfl, hb1⟩
  rw [u64R, if_pos hx]
  go_wp2_with fail
  refine (uint64 vb c y w1 (HB.out.keep hb1)).mono ?_
  rintro e w2 ⟨rfl, hb2⟩
  rw [u64R, if_pos hy]
  have hb3 := hb1.trans (hb2.mono hb1.size)
  clear HA HB hb1 hb2
  go_wp2_with fail
  go_loopg [5, 7] y.toNat (fun k p q wr => ∃ X Y : Int, p = .int .u64 X ∧ q = .int .u64 Y ∧ 0 ≤ X ∧ 0 ≤ Y ∧ X < 18446744073709551616 ∧ Y < 18446744073709551616 ∧ Y.toNat ≤ k ∧ gcdI X Y = gcdI x y ∧ Below w.heap.size w wr)
  case atStart => exact ⟨x, y, rfl, rfl, hx0, hy0, hx, hy, Nat.le_refl _, rfl, hb3⟩
  case round =>
    obtain ⟨X, Y, rfl, rfl, h1, h2, h3, h4, h5, h6, hb⟩ := hrel
    have H6 := Lib.hid h6
    clear h6
    by_cases h0 : 0 < Y
    · have HG := Lib.hid (gcdI_step h1 h2)
      have hm : 0 ≤ X % Y ∧ X % Y < Y := ⟨Int.emod_nonneg _ (by omega), Int.emod_lt_of_pos _ h0⟩
      go_wp2
      go_quiet (fail)
      go_wp2
      go_roundg (X % Y).toNat
      case measure => omega
      case rel => exact ⟨Y, X % Y, rfl, rfl, h2, hm.1, h4, by omega, Nat.le_refl _, by rw [← HG.out]; exact H6.out, below_drewN hb _⟩
    · obtain rfl : Y = 0 := by omega
      have HG := Lib.hid (gcdI_zero h1)
      go_wp2_with fail
      refine (fromUint64 X wr h1 h3).mono ?_
      rintro e w4 ⟨v, rfl, hv, hb4⟩
      rw [← HG.out, H6.out] at hv
      go_wp2_with fail
      go_ret
      exact ⟨v, rfl, hv.mono hb.size, hb.trans (hb4.mono hb.size)⟩

set_option maxHeartbeats 1000000 in
theorem gcd (va vb : Value) (c : Nat) (x y : Int) (w : World) (ha : Num w va c x) (hb : Num w vb c y) (hc : c ≤ 4294967296) :
    Calls Try.prog 70 #[va, vb] w (Ret1 w.heap.size w (gcdI x y)) := by
  have HA := Lib.hid ha
  have HB := Lib.hid hb
  clear ha hb
  go_enter Try.func70, Try.ntmps70
  go_wp2_with fail
  refine (normalize va c x w HA.out hc).mono ?_
  rintro e w1 ⟨v1, rfl, h1, hb1⟩
  go_wp2_with fail
  refine (normalize vb c y w1 (HB.out.keep hb1) hc).mono ?_
  rintro e w2 ⟨v2, rfl, h2, hb2⟩
  have HI := Lib.hid (And.intro (h1.keep hb2) (h2.mono hb1.size))
  have hb3 := hb1.trans (hb2.mono hb1.size)
  have HX := Lib.hid (And.intro HA.out.lt HB.out.lt)
  have HY := Lib.hid HB.out.nonneg
  clear HA HB hb1 hb2 h1 h2
  go_wp2_with fail
  go_loopg [5, 6] y.toNat (fun k p q wr => ∃ X Y : Int, IsNew w.heap.size wr p X ∧ IsNew w.heap.size wr q Y ∧ X < Bp c ∧ Y < Bp c ∧ Y.toNat ≤ k ∧ gcdI X Y = gcdI x y ∧ Below w.heap.size w wr)
  case atStart => exact ⟨x, y, HI.out.1, HI.out.2, HX.out.1, HX.out.2, Nat.le_refl _, rfl, hb3⟩
  case round =>
    obtain ⟨X, Y, i1, i2, hX, hY, h5, h6, hb⟩ := hrel
    have HI1 := Lib.hid i1
    have HI2 := Lib.hid i2
    have HB6 := Lib.hid (And.intro h6 (And.intro hX hY))
    have n1 := i1.nonneg
    have n2 := i2.nonneg
    obtain ⟨lx, rx, cx, ex, _⟩ := i1
    obtain ⟨ly, ry, cy, ey, _⟩ := i2
    have HE := Lib.hid (And.intro (And.intro cx ex) (And.intro cy ey))
    obtain ⟨a1, p1, rfl, g1, m1, _⟩ := Row.parts rx
    obtain ⟨a2, p2, rfl, g2, m2, _⟩ := Row.parts ry
    have HM1 := Lib.hid (IsNew.num HI1.out c hX)
    have HM2 := Lib.hid (IsNew.num HI2.out c hY)
    clear rx ry cx cy ex ey h6 hX hY
    by_cases h0 : ly.length = 0
    · have HZ := Lib.hid (show Y = 0 by
        have : ly = [] := List.eq_nil_of_length_eq_zero h0
        rw [← HE.out.2.2, this]; rfl)
      have hd : decide (0 < (ly.length : Int)) = false := by rw [h0]; rfl
      go_wp2
      go_ret
      refine ⟨_, rfl, ?_, hb⟩
      rw [← HB6.out.1, HZ.out, gcdI_zero n1]
      exact HI1.out
    · have hd : decide (0 < (ly.length : Int)) = true := by simp; omega
      have hYp : 0 < Y := by
        have := HE.out.2.1.pos (by rintro rfl; simp at h0)
        have := HE.out.2.2
        omega
      have HG := Lib.hid (gcdI_step n1 n2)
      by_cases hs1 : lx.length ≤ 2
      · by_cases hs2 : ly.length ≤ 2
        · have hsm : X < 18446744073709551616 ∧ Y < 18446744073709551616 := by
            have e1 := N_lt HE.out.1.1.1
            have e2 := N_lt HE.out.2.1.1
            have f1 := Bp_mono hs1
            have f2 := Bp_mono hs2
            have f3 : Bp 2 = 18446744073709551616 := by decide
            have := HE.out.1.2
            have := HE.out.2.2
            omega
          have hd1 : decide ((lx.length : Int) ≤ 2) = true := by simp; omega
          have hd2 : decide ((ly.length : Int) ≤ 2) = true := by simp; omega
          go_wp2_with fail
          refine (gcdSmall _ _ c X Y wr HM1.out HM2.out hsm.1 hsm.2).mono ?_
          rintro e w4 ⟨v, rfl, hv, hb4⟩
          rw [HB6.out.1] at hv
          go_wp2_with fail
          go_ret
          exact ⟨v, rfl, hv.mono hb.size, hb.trans (hb4.mono hb.size)⟩
        · have hd1 : decide ((lx.length : Int) ≤ 2) = true := by simp; omega
          have hd2 : decide ((ly.length : Int) ≤ 2) = false := by simp; omega
          go_wp2_with fail
          refine (divMod _ _ c X Y wr HM1.out HM2.out hc).mono ?_
          rintro e w4 ⟨vq, vr, rfl, hq, hr, hb4⟩
          rw [if_neg (by omega)] at hr
          have HR := Lib.hid hr
          clear hr hq
          go_wp2_with fail
          go_roundg (X % Y).toNat
          case measure => have := Int.emod_lt_of_pos X hYp; have := Int.emod_nonneg X (show Y ≠ 0 by omega); omega
          case rel => exact ⟨Y, X % Y, HI2.out.keep hb4, HR.out.mono hb.size, HB6.out.2.2, by have := Int.emod_lt_of_pos X hYp; have := HB6.out.2.2; omega, Nat.le_refl _, by rw [← HG.out]; exact HB6.out.1, hb.trans (hb4.mono hb.size)⟩
      · have hd1 : decide ((lx.length : Int) ≤ 2) = false := by simp; omega
        go_wp2_with fail
        refine (divMod _ _ c X Y wr HM1.out HM2.out hc).mono ?_
        rintro e w4 ⟨vq, vr, rfl, hq, hr, hb4⟩
        rw [if_neg (by omega)] at hr
        have HR := Lib.hid hr
        clear hr hq
        go_wp2_with fail
        go_roundg (X % Y).toNat
        case measure => have := Int.emod_lt_of_pos X hYp; have := Int.emod_nonneg X (show Y ≠ 0 by omega); omega
        case rel => exact ⟨Y, X % Y, HI2.out.keep hb4, HR.out.mono hb.size, HB6.out.2.2, by have := Int.emod_lt_of_pos X hYp; have := HB6.out.2.2; omega, Nat.le_refl _, by rw [← HG.out]; exact HB6.out.1, hb.trans (hb4.mono hb.size)⟩
end Go.Proofs.Ytpplleoiehnlkaa.Nt
