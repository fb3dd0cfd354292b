/-
  Contract of credenceref1.NatGCD.
-/
import Derived.Test.YtpplleoiehnlkaaRefE
namespace Go.Proofs.Ytpplleoiehnlkaa.Nt
open Go.ChangeShapes Go.WideShapes Go.ChangeAt Go.RowKit B
set_option linter.unusedVariables false

theorem gcdI_comm (x y : Int) : gcdI x y = gcdI y x := by unfold gcdI; rw [Nat.gcd_comm]
theorem gcdI_half {x y : Int} (hx : 0 ≤ x) (hy : 0 ≤ y) (ex : x % 2 = 0) (oy : y % 2 = 1) : gcdI (x / 2) y = gcdI x y := by
  obtain ⟨a, rfl⟩ := Int.eq_ofNat_of_zero_le hx
  obtain ⟨b, rfl⟩ := Int.eq_ofNat_of_zero_le hy
  obtain ⟨k, rfl⟩ : ∃ k, a = 2 * k := ⟨a / 2, by omega⟩
  have e : ((2 * k : Nat) : Int) / 2 = (k : Int) := by omega
  unfold gcdI
  rw [e, Int.toNat_natCast, Int.toNat_natCast, Int.toNat_natCast]
  have hco : Nat.Coprime 2 b := by
    rw [Nat.coprime_comm, Nat.Coprime]
    have := Nat.gcd_rec 2 b
    rw [Nat.gcd_comm, this, show b % 2 = 1 by omega]; simp
  rw [Nat.Coprime.gcd_mul_left_cancel _ hco]
theorem gcdI_both {x y : Int} (hx : 0 ≤ x) (hy : 0 ≤ y) (ex : x % 2 = 0) (ey : y % 2 = 0) : gcdI x y = 2 * gcdI (x / 2) (y / 2) := by
  obtain ⟨a, rfl⟩ := Int.eq_ofNat_of_zero_le hx
  obtain ⟨b, rfl⟩ := Int.eq_ofNat_of_zero_le hy
  obtain ⟨k, rfl⟩ : ∃ k, a = 2 * k := ⟨a / 2, by omega⟩
  obtain ⟨m, rfl⟩ : ∃ k, b = 2 * k := ⟨b / 2, by omega⟩
  have e : ((2 * k : Nat) : Int) / 2 = (k : Int) := by omega
  have e2 : ((2 * m : Nat) : Int) / 2 = (m : Int) := by omega
  unfold gcdI
  rw [e, e2, Int.toNat_natCast, Int.toNat_natCast, Int.toNat_natCast, Int.toNat_natCast, Nat.gcd_mul_left]
  omega
theorem gcdI_sub {x y : Int} (hx : 0 ≤ x) (h : x ≤ y) : gcdI x (y - x) = gcdI x y := by
  obtain ⟨a, rfl⟩ := Int.eq_ofNat_of_zero_le hx
  obtain ⟨b, rfl⟩ := Int.eq_ofNat_of_zero_le (show 0 ≤ y by omega)
  have e : (b : Int) - (a : Int) = ((b - a : Nat) : Int) := by omega
  unfold gcdI
  rw [e, Int.toNat_natCast, Int.toNat_natCast, Int.toNat_natCast, Nat.gcd_sub_self_right (by omega)]
theorem gcdI_pos {x y : Int} (hx : 0 < x) : 0 < gcdI x y := by
  unfold gcdI
  have := Nat.gcd_pos_of_pos_left (m := x.toNat) y.toNat (by omega)
  omega
theorem gcdI_le_left {x y : Int} (hx : 0 < x) : gcdI x y ≤ x := by
  unfold gcdI
  have := Nat.gcd_le_left (m := x.toNat) y.toNat (by omega)
  omega
theorem pow_bound {s c : Nat} {X x : Int} (h0 : 0 < X) (h : 2 ^ s * X ≤ x) (hx : x < Bp c) : s < 32 * c := by
  have h1 := Int.mul_le_mul_of_nonneg_left (show 1 ≤ X by omega) (show (0 : Int) ≤ 2 ^ s by have := two_pos s; omega)
  rw [Int.mul_one] at h1
  rw [Bp_pow] at hx
  rcases Nat.lt_or_ge s (32 * c) with h2 | h2
  · exact h2
  · have := two_mono h2; omega
theorem cmp_le {x y : Int} (h : x ≤ y) : cmpI x y ≤ 0 := by
  unfold cmpI
  split
  · decide
  · split
    · decide
    · omega
/-- the lowest digit of a number that is not 0 -/
theorem IsNew.head {base : Nat} {w : World} {v : Value} {n : Int} (h : IsNew base w v n) (e : 0 < n) : ∃ b off len cap d, v = .slice (some ⟨b, off, none⟩) len cap ∧ 0 < len ∧ len ≤ cap ∧ cap ≤ 9223372036854775807 ∧
    w.cell? ⟨b, off, none⟩ = some (.int .u32 d) ∧ 0 ≤ d ∧ d < 4294967296 ∧ d % 2 = n % 2 := by
  obtain ⟨l, h1, h2, h3, h4⟩ := h
  obtain ⟨a, cap, rfl, h5, h6, hc⟩ := Row.parts h1
  rcases l with _ | ⟨d, l⟩
  · simp [N] at h3; omega
  · obtain ⟨b, off, rfl, q, wx⟩ := hc 0 (by simp)
    have := h2.1.head
    refine ⟨b, off, _, cap, d, rfl, by simp, h5, h6, by simpa using q, this.1, this.2, ?_⟩
    rw [← h3, N]; omega

set_option maxHeartbeats 2000000 in
theorem rGCD (va vb : Value) (c : Nat) (x y : Int) (w : World) (ha : Num w va c x) (hb : Num w vb c y) (hc : c ≤ 16777216) :
    Calls Try.prog 77 #[va, vb] w (Ret1 w.heap.size w (gcdI x y)) := by
  have HXL := Lib.hid (And.intro ha.lt hb.lt)
  have HNN := Lib.hid (And.intro ha.nonneg hb.nonneg)
  have HA := Lib.hid ha
  have HB := Lib.hid hb
  clear ha hb
  go_enter Try.func77, Try.ntmps77
  go_wp2_with fail
  refine (rNorm va c x w HA.out (by omega)).mono ?_
  rintro e w1 ⟨v1, rfl, h1, hb1⟩
  have HX := Lib.hid h1
  clear h1
  go_wp2_with fail
  refine (rNorm vb c y w1 (HB.out.keep hb1) (by omega)).mono ?_
  rintro e w2 ⟨v2, rfl, h2, hb2⟩
  have hbw : Below w.heap.size w w2 := hb1.trans (hb2.mono hb1.size)
  have HX2 := Lib.hid (HX.out.keep hb2)
  have HY2 := Lib.hid (h2.mono (base' := w.heap.size) hb1.size)
  clear h2 HX
  by_cases hx : x = 0
  · obtain ⟨a1, p1, rfl⟩ := IsNew.zero HX2.out hx
    have HE := Lib.hid (show y = gcdI x y by rw [hx, gcdI_comm, gcdI_zero HNN.out.2])
    clear hx
    go_wp2_with fail
    go_ret
    exact ⟨v2, rfl, by rw [← HE.out]; exact HY2.out, hbw⟩
  obtain ⟨a1, n1, p1, rfl, hn1, hp1, hq1⟩ := IsNew.lenPos HX2.out hx
  have hd1 : ((n1 : Int) == 0) = false := by rw [beq_eq_false_iff_ne]; omega
  have hx0 : 0 < x := by have := HNN.out.1; omega
  by_cases hy : y = 0
  · obtain ⟨a2, p2, rfl⟩ := IsNew.zero HY2.out hy
    have HE := Lib.hid (show x = gcdI x y by rw [hy, gcdI_zero HNN.out.1])
    clear hx hy
    go_wp2_with fail
    go_ret
    exact ⟨_, rfl, by rw [← HE.out]; exact HX2.out, hbw⟩
  obtain ⟨a2, n2, p2, rfl, hn2, hp2, hq2⟩ := IsNew.lenPos HY2.out hy
  have hd2 : ((n2 : Int) == 0) = false := by rw [beq_eq_false_iff_ne]; omega
  have hy0 : 0 < y := by have := HNN.out.2; omega
  clear hx hy
  go_wp2_with fail
  clear hd1 hd2 hn1 hn2 hp1 hp2 hq1 hq2
  go_loopg [5, 6, 7] x.toNat (fun gk p q t wr => ∃ (X Y : Int) (s : Nat), 0 < X ∧ 0 < Y ∧ X.toNat ≤ gk ∧ t = .int .i64 s ∧ Hid (IsNew w.heap.size wr p X) ∧ Hid (IsNew w.heap.size wr q Y) ∧ Hid (gcdI x y = 2 ^ s * gcdI X Y ∧ 2 ^ s * X ≤ x ∧ X ≤ x ∧ Y ≤ y) ∧ Below w.heap.size w wr)
  case atStart => exact ⟨x, y, 0, hx0, hy0, Nat.le_refl _, rfl, HX2.out, HY2.out, ⟨by simp, by simp, Int.le_refl _, Int.le_refl _⟩, hbw⟩
  case round =>
    obtain ⟨X, Y, s, hX0, hY0, hgk, rfl, HX, HY, HI, hb⟩ := hrel
    obtain ⟨bx, ox, nx, px, dx, rfl, hnx, hpx, hqx, qx, dx0, dx1, dxe⟩ := IsNew.head HX.out hX0
    obtain ⟨by_, oy, ny, py, dy, rfl, hny, hpy, hqy, qy, dy0, dy1, dye⟩ := IsNew.head HY.out hY0
    have hs := pow_bound hX0 HI.out.2.1 HXL.out.1
    by_cases hev : X % 2 = 0 ∧ Y % 2 = 0
    · have hbx : bits .and .u32 dx 1 = 0 := by rw [and_one _ ⟨dx0, dx1⟩]; omega
      have hby : bits .and .u32 dy 1 = 0 := by rw [and_one _ ⟨dy0, dy1⟩]; omega
      have HE := Lib.hid hev
      clear hev dxe dye
      go_wp2_with fail
      refine (rHalf _ c X wr (HX.out.num c (by have := HXL.out.1; have := HI.out.2.2.1; omega)) (by omega)).mono ?_
      rintro e w3 ⟨v3, rfl, h3, hb3⟩
      have HX3 := Lib.hid (h3.mono (base' := w.heap.size) hb.size)
      clear h3 hbx hby
      go_wp2_with fail
      refine (rHalf _ c Y w3 ((HY.out.keep hb3).num c (by have := HXL.out.2; have := HI.out.2.2.2; omega)) (by omega)).mono ?_
      rintro e w4 ⟨v4, rfl, h4, hb4⟩
      have HY4 := Lib.hid (h4.mono (base' := w.heap.size) (Nat.le_trans hb.size hb3.size))
      clear h4
      have HG := Lib.hid (gcdI_both (x := X) (y := Y) (by omega) (by omega) HE.out.1 HE.out.2)
      go_wp2_with fail
      go_roundg (X / 2).toNat
      case measure => omega
      case rel =>
        refine ⟨X / 2, Y / 2, s + 1, by have := HE.out.1; omega, by have := HE.out.2; omega, Nat.le_refl _, by go_num, HX3.out.keep hb4, HY4.out, ⟨?_, ?_, ?_, ?_⟩, (hb.trans (hb3.mono hb.size)).trans (hb4.mono (Nat.le_trans hb.size hb3.size))⟩
        · rw [HI.out.1, HG.out, Int.pow_succ, Int.mul_assoc]
        · rw [Int.pow_succ, Int.mul_assoc, show 2 * (X / 2) = X by have := HE.out.1; omega]; exact HI.out.2.1
        · have := HI.out.2.2.1; omega
        · have := HI.out.2.2.2; omega
    · have HCO := Lib.hid (show X % 2 = 1 ∨ Y % 2 = 1 by omega)
      have HSB := Lib.hid (show gcdI X Y * 2 ^ s ≤ x by rw [Int.mul_comm, ← HI.out.1]; exact gcdI_le_left hx0)
      have HCX := Lib.hid (show X < Bp c ∧ Y < Bp c by have := HXL.out.1; have := HXL.out.2; have := HI.out.2.2.1; have := HI.out.2.2.2; omega)
      have hex : (bits .and .u32 dx 1 = 0 ∧ bits .and .u32 dy 1 = 1) ∨ bits .and .u32 dx 1 = 1 := by
        rw [and_one _ ⟨dx0, dx1⟩, and_one _ ⟨dy0, dy1⟩]; omega
      clear hev dxe dye
      rcases hex with ⟨hbx, hby⟩ | hbx
      all_goals
        go_wp2_with fail
        clear hbx
        try clear hby
        clear dx0 dx1 dy0 dy1 qx qy
        go_loopg [5, 6] (X + Y).toNat (fun gk p q wr => ∃ X' Y' : Int, 0 < X' ∧ 0 ≤ Y' ∧ (X' + Y').toNat ≤ gk ∧ Hid (X' % 2 = 1 ∨ Y' % 2 = 1) ∧ Hid (IsNew w.heap.size wr p X') ∧ Hid (IsNew w.heap.size wr q Y') ∧ Hid (gcdI X' Y' = gcdI X Y ∧ X' < Bp c ∧ Y' < Bp c) ∧ Below w.heap.size w wr)
        case atStart => exact ⟨X, Y, hX0, by omega, Nat.le_refl _, HCO, HX, HY, ⟨rfl, HCX.out.1, HCX.out.2⟩, hb⟩
        case round =>
          clear HX HY hb HCO hnx hpx hqx hny hpy hqy
          obtain ⟨X1, Y1, hX1, hY1, hgk, HCO, HX, HY, HJ, hb⟩ := hrel
          rcases Int.lt_or_eq_of_le hY1 with hY2 | hY2
          · obtain ⟨aq, nq, pq, rfl, hnq, hpq, hqq⟩ := IsNew.lenPos HY.out (by omega)
            have hd1 : decide ((nq : Int) > 0) = true := by simp; omega
            go_wp2_with fail
            clear hd1
            go_loopg [5] X1.toNat (fun gk p wr => ∃ X2 : Int, 0 < X2 ∧ X2.toNat ≤ gk ∧ X2 ≤ X1 ∧ Hid (X2 % 2 = 1 ∨ Y1 % 2 = 1) ∧ Hid (IsNew w.heap.size wr p X2) ∧ Hid (IsNew w.heap.size wr (.slice aq nq pq) Y1) ∧ Hid (gcdI X2 Y1 = gcdI X Y) ∧ Below w.heap.size w wr)
            case atStart => exact ⟨X1, hX1, Nat.le_refl _, Int.le_refl _, HCO, HX, HY, HJ.out.1, hb⟩
            case round =>
              clear HX HY hb HCO
              obtain ⟨X2, hX2, hgk2, hle2, HCO, HX, HY, HK, hb⟩ := hrel
              obtain ⟨bx, ox, nx, px, dx, rfl, hnx, hpx, hqx, qx, dx0, dx1, dxe⟩ := IsNew.head HX.out hX2
              by_cases hev : X2 % 2 = 0
              · have hbx : bits .and .u32 dx 1 = 0 := by rw [and_one _ ⟨dx0, dx1⟩]; omega
                have HG := Lib.hid (gcdI_half (x := X2) (y := Y1) (by omega) hY1 hev (by have := HCO.out; omega))
                have HE := Lib.hid hev
                clear hev dxe
                go_wp2_with fail
                refine (rHalf _ c X2 wr (HX.out.num c (by have := HJ.out.2.1; omega)) (by omega)).mono ?_
                rintro e w3 ⟨v3, rfl, h3, hb3⟩
                have HX3 := Lib.hid (h3.mono (base' := w.heap.size) hb.size)
                clear h3 hbx
                go_wp2_with fail
                go_roundg (X2 / 2).toNat
                case measure => omega
                case rel => exact ⟨X2 / 2, by have := HE.out; omega, Nat.le_refl _, by omega, by have h := HCO.out; have h2 := HE.out; show _ ∨ _; omega, HX3.out, HY.out.keep hb3, by show _ = _; rw [HG.out, HK.out], hb.trans (hb3.mono hb.size)⟩
              · have hbx : bits .and .u32 dx 1 = 1 := by rw [and_one _ ⟨dx0, dx1⟩]; omega
                have HOX := Lib.hid (show X2 % 2 = 1 by omega)
                clear hev dxe
                go_wp2_with fail
                clear hbx dx0 dx1 qx
                go_loopg [6] Y1.toNat (fun gk q wr => ∃ Y2 : Int, 0 < Y2 ∧ Y2.toNat ≤ gk ∧ Y2 ≤ Y1 ∧ Hid (IsNew w.heap.size wr (.slice (some ⟨bx, ox, none⟩) nx px) X2) ∧ Hid (IsNew w.heap.size wr q Y2) ∧ Hid (gcdI X2 Y2 = gcdI X Y) ∧ Below w.heap.size w wr)
                case atStart => exact ⟨Y1, hY2, Nat.le_refl _, Int.le_refl _, HX, HY, HK, hb⟩
                case round =>
                  clear HX HY hb HCO HK
                  obtain ⟨Y2, hY3, hgk3, hle3, HX, HY, HK, hb⟩ := hrel
                  obtain ⟨by_, oy, ny, py, dy, rfl, hny, hpy, hqy, qy, dy0, dy1, dye⟩ := IsNew.head HY.out hY3
                  by_cases hev : Y2 % 2 = 0
                  · have hby : bits .and .u32 dy 1 = 0 := by rw [and_one _ ⟨dy0, dy1⟩]; omega
                    have HG := Lib.hid (gcdI_half (x := Y2) (y := X2) (by omega) (by omega) hev HOX.out)
                    have HE := Lib.hid hev
                    clear hev dye
                    go_wp2_with fail
                    refine (rHalf _ c Y2 wr (HY.out.num c (by have := HJ.out.2.2; omega)) (by omega)).mono ?_
                    rintro e w3 ⟨v3, rfl, h3, hb3⟩
                    have HY3 := Lib.hid (h3.mono (base' := w.heap.size) hb.size)
                    clear h3 hby
                    go_wp2_with fail
                    go_roundg (Y2 / 2).toNat
                    case measure => omega
                    case rel => exact ⟨Y2 / 2, by have := HE.out; omega, Nat.le_refl _, by omega, HX.out.keep hb3, HY3.out, by show _ = _; rw [gcdI_comm, HG.out, gcdI_comm, HK.out], hb.trans (hb3.mono hb.size)⟩
                  · have hby : bits .and .u32 dy 1 = 1 := by rw [and_one _ ⟨dy0, dy1⟩]; omega
                    have HOY := Lib.hid (show Y2 % 2 = 1 by omega)
                    clear hev dye
                    have HBD := Lib.hid (show X2 < Bp c ∧ Y2 < Bp c by have := HJ.out.2.1; have := HJ.out.2.2; omega)
                    go_wp2_with fail
                    clear hby dy0 dy1 qy
                    refine (rCmp _ _ c X2 Y2 wr (HX.out.num c HBD.out.1) (HY.out.num c HBD.out.2) (by omega)).mono ?_
                    rintro e w3 ⟨rfl, hb3⟩
                    by_cases hgt : Y2 < X2
                    · have e1 : cmpI X2 Y2 = 1 := by rw [cmpI, if_neg (by omega), if_neg (by omega)]
                      rw [e1]
                      clear e1
                      have HE := Lib.hid hgt
                      clear hgt
                      go_wp2_with fail
                      refine (rSub _ _ c X2 Y2 w3 ((HX.out.keep hb3).num c HBD.out.1) ((HY.out.keep hb3).num c HBD.out.2) (by omega)).mono ?_
                      rintro e w4 ⟨v4, rfl, h4, hb4⟩
                      have hle : Y2 ≤ X2 := by have := HE.out; omega
                      rw [if_pos hle] at h4
                      rw [decide_eq_true hle]
                      have HX4 := Lib.hid (h4.mono (base' := w.heap.size) (Nat.le_trans hb.size hb3.size))
                      have HG := Lib.hid (gcdI_sub (x := Y2) (y := X2) (by omega) hle)
                      clear h4 hle
                      go_wp2_with fail
                      go_roundg X2.toNat
                      case measure => omega
                      case rel => exact ⟨Y2, X2 - Y2, hY3, by have := HE.out; omega, by omega, .inl HOY.out, (HY.out.keep hb3).keep hb4, HX4.out, ⟨by rw [HG.out, gcdI_comm, HK.out], HBD.out.2, by have := HBD.out.1; omega⟩, (hb.trans (hb3.mono hb.size)).trans (hb4.mono (Nat.le_trans hb.size hb3.size))⟩
                    · have e1 : cmpI X2 Y2 ≤ 0 := cmp_le (by omega)
                      generalize cmpI X2 Y2 = t at *
                      have hd1 : decide (t > 0) = false := by simp; omega
                      have HE := Lib.hid (show X2 ≤ Y2 by omega)
                      clear hgt
                      go_wp2_with fail
                      refine (rSub _ _ c Y2 X2 w3 ((HY.out.keep hb3).num c HBD.out.2) ((HX.out.keep hb3).num c HBD.out.1) (by omega)).mono ?_
                      rintro e w4 ⟨v4, rfl, h4, hb4⟩
                      rw [if_pos HE.out] at h4
                      rw [decide_eq_true HE.out]
                      have HY4 := Lib.hid (h4.mono (base' := w.heap.size) (Nat.le_trans hb.size hb3.size))
                      have HG := Lib.hid (gcdI_sub (x := X2) (y := Y2) (by omega) HE.out)
                      clear h4 e1 hd1
                      go_wp2_with fail
                      go_roundg Y2.toNat
                      case measure => omega
                      case rel => exact ⟨X2, Y2 - X2, hX2, by have := HE.out; omega, by omega, .inl HOX.out, (HX.out.keep hb3).keep hb4, HY4.out, ⟨by rw [HG.out, HK.out], HBD.out.1, by have := HBD.out.2; omega⟩, (hb.trans (hb3.mono hb.size)).trans (hb4.mono (Nat.le_trans hb.size hb3.size))⟩
          · obtain ⟨aq, pq, rfl⟩ := IsNew.zero HY.out hY2.symm
            have HG := Lib.hid (show X1 = gcdI X Y by rw [← HJ.out.1, ← hY2, gcdI_zero (by omega)])
            clear hY2
            go_wp2_with fail
            clear HY
            go_loopg [5, 8] s (fun gk p i wr => ∃ k : Nat, k ≤ s ∧ s - k ≤ gk ∧ i = .int .i64 k ∧ Hid (IsNew w.heap.size wr p (X1 * 2 ^ k)) ∧ Below w.heap.size w wr)
            case atStart => exact ⟨0, Nat.zero_le _, Nat.le_refl _, rfl, by rw [Int.pow_zero, Int.mul_one]; exact HX, hb⟩
            case round =>
              clear HX hb
              obtain ⟨k, hk, hgk3, rfl, HX, hb⟩ := hrel
              by_cases hlt : k < s
              · have HBD := Lib.hid (show X1 * 2 ^ k < Bp c by
                  have h1 := Int.mul_le_mul_of_nonneg_left (two_mono (show k ≤ s by omega)) (show 0 ≤ X1 by omega)
                  have h2 := HSB.out
                  rw [← HG.out] at h2
                  have := HXL.out.1
                  omega)
                go_wp2_with fail
                refine (rDouble _ c (X1 * 2 ^ k) 0 wr (HX.out.num c HBD.out) (by omega) (by omega)).mono ?_
                rintro e w3 ⟨v3, rfl, h3, hb3⟩
                have HX3 := Lib.hid (h3.mono (base' := w.heap.size) hb.size)
                clear h3
                go_wp2_with fail
                go_roundg (s - (k + 1))
                case measure => omega
                case rel => exact ⟨k + 1, by omega, Nat.le_refl _, by go_num, by rw [qstep, Int.mul_assoc, ← Int.add_zero (2 * (X1 * 2 ^ k))]; exact HX3, hb.trans (hb3.mono hb.size)⟩
              · obtain rfl : k = s := by omega
                have HE := Lib.hid (show X1 * 2 ^ k = gcdI x y by rw [HI.out.1, HG.out, Int.mul_comm])
                go_wp2_with fail
                go_ret
                exact ⟨_, rfl, by rw [← HE.out]; exact HX.out, hb⟩
end Go.Proofs.Ytpplleoiehnlkaa.Nt
