/-
  The walk of BignatText.
-/
import Derived.Test.YthndffacpijnoaaKnown
import Derived.Test.YthndffacpijnoaaRefI
namespace Go.Proofs.Ythndffacpijnoaa.bignatText
open Go.ChangeShapes Go.WideShapes Go.ChangeAt Go.RowKit B Nt
set_option linter.unusedVariables false

theorem and7 (n : Int) (h : 0 ≤ n ∧ n < 256) : bits .and .u8 n 7 = n % 8 := by
  have h127 : (BitVec.ofInt 8 7).toNat = 2 ^ 3 - 1 := by decide
  have key : (BitVec.ofInt 8 n &&& BitVec.ofInt 8 7).toNat = (n % ((2 ^ 8 : Nat) : Int)).toNat % 2 ^ 3 := by
    rw [BitVec.toNat_and, BitVec.toNat_ofInt, h127, Nat.and_two_pow_sub_one_eq_mod]
  show IntKind.u8.wrap ((BitVec.ofInt 8 n &&& BitVec.ofInt 8 7).toNat : Nat) = n % 8
  rw [key, IntKind.wrap_u8]
  omega
theorem dec_size {s : ByteArray} {n : Int} {c : Nat} (h : IsDec s n) (hn : n < Bp c) : s.size ≤ 32 * c + 1 := by
  rcases h with ⟨_, rfl⟩ | ⟨h0, l, h1, h2, rfl⟩
  · have : (⟨#[48]⟩ : ByteArray).size = 1 := rfl
    omega
  · have hs : (decS l).size = l.length := by simp [decS, decB, ByteArray.size]
    rcases hl : l.length with _ | k
    · omega
    · have hp : p10 k ≤ n := by
        obtain ⟨m, x, rfl⟩ : ∃ m x, l = m ++ [x] := ⟨l.dropLast, l.getLast (by intro e; rw [e] at hl; simp at hl), (List.dropLast_concat_getLast _).symm⟩
        have hm : m.length = k := by simpa using hl
        rw [V10_snoc, hm] at h2
        have hx : x ≠ 0 := by intro e; subst e; exact h1.2 (by simp)
        have hx2 := h1.1 x (by simp)
        have hm0 : 0 ≤ V10 m := V10_nonneg (fun d hd => h1.1 d (by simp [hd]))
        have := Int.mul_le_mul_of_nonneg_left (show 1 ≤ x by omega) (show 0 ≤ p10 k by have := p10_pos k; omega)
        omega
      have := p10_len hp hn
      omega

set_option maxHeartbeats 4000000 in
set_option maxRecDepth 100000 in
theorem walk (a0 : Option Addr) (len0 cap0 : Nat) (z0 : List Int) (a1 : ByteArray) (a2 : Int) (w : World) (w0 : IsRow .u32 w a0 len0 cap0 z0) (w1 : a1.size ≤ maxLen) (w2 : (Lit.int .u8 a2).wf = true) :
    Calls Try.prog 3 #[.slice a0 len0 cap0, .string a1, .int .u8 a2] w fun e w' => e = .returned (.bool true) ∧ Below w.heap.size w w' := by
  have X0 := Lib.hid (Row.of w0)
  have ha2 := wf_u8 w2
  have HAND := Lib.hid (and7 a2 ha2)
  have HM := Lib.hid w1
  unfold maxLen at w1
  clear w0 w2
  generalize z0.take len0 = l0 at *
  by_cases hl : 100 < a1.size
  · go_enter Try.func3, Try.ntmps3
    go_wp2_with fail
    go_ret
    exact ⟨rfl, Below.refl _ _⟩
  go_enter Try.func3, Try.ntmps3
  go_wp2_with fail
  refine (baseNat _ l0 _ X0.out).mono ?_
  rintro e wn1 ⟨vn1, rfl, rn2, hbn1⟩
  have Hn3 : Hid (Num wn1 vn1 8 (N (bnat l0))) := ⟨_, rn2, bnat_len _, rfl⟩
  have Rn4 := Lib.hid rn2
  clear rn2
  go_wp2_with fail
  refine (Nt.format _ 8 (N (bnat l0)) _ Hn3.out (by omega)).mono ?_
  rintro e wn2 ⟨tn5, rfl, hDn6, hbn2⟩
  have Dn6 := Lib.hid hDn6
  clear hDn6
  have hts : tn5.size ≤ 257 := dec_size Dn6.out (Hn3.out.lt)
  go_wp2_with fail
  refine (Nt.parse a1 _ HM.out).mono ?_
  rintro e wn3 ⟨vn7, rfl, rn8, hbn3⟩
  have Hn9 := Lib.hid rn8
  clear rn8
  go_wp2_with fail
  refine (rParse a1 _ HM.out).mono ?_
  rintro e wn4 ⟨vn10, rfl, rn11, hbn4⟩
  have Hn12 := Lib.hid rn11
  clear rn11
  go_wp2_with fail
  generalize pcode a1.data.toList = C at *
  go_loopg [13, 14] 7 (fun gk s i wr => ∃ (k : Nat) (L : ByteArray), k ≤ 7 ∧ 7 - k ≤ gk ∧ s = .string L ∧ L.size ≤ 300 + k ∧ i = .int .u8 k ∧ wr = wn4)
  case atStart => exact ⟨0, tn5, by omega, by omega, rfl, by omega, rfl, rfl⟩
  case round =>
    obtain ⟨k, L, hk, hgk, rfl, hL, rfl, rfl⟩ := hrel
    by_cases hlt : (k : Int) < a2 % 8
    · have hk7 : k < 7 := by omega
      have hsz : (⟨#[48]⟩ : ByteArray).size = 1 := rfl
      have hd : decide ((k : Int) < a2 % 8) = true := by simpa using hlt
      go_wp2_with fail
      go_roundg (7 - (k + 1))
      case measure => omega
      case rel => exact ⟨k + 1, _, by omega, Nat.le_refl _, rfl, by rw [ByteArray.size_append]; omega, by go_num, rfl⟩
    · have hd : decide ((k : Int) < a2 % 8) = false := by simpa using hlt
      go_wp2_with fail
      refine (Nt.parse L _ (by unfold maxLen; omega)).mono ?_
      rintro e wn5 ⟨vn13, rfl, rn14, hbn5⟩
      have Hn15 := Lib.hid rn14
      clear rn14
      go_wp2_with fail
      refine (rParse L _ (by unfold maxLen; omega)).mono ?_
      rintro e wn6 ⟨vn16, rfl, rn17, hbn6⟩
      have Hn18 := Lib.hid rn17
      clear rn17
      generalize pcode L.data.toList = C2 at *
      go_wp2_with fail
      refine (rFormat _ 8 (N (bnat l0)) _ (((((Hn3.out.keep hbn2).keep hbn3).keep hbn4).keep hbn5).keep hbn6) (by omega)).mono ?_
      rintro e wn7 ⟨tn19, rfl, hDn20, hbn7⟩
      have Dn20 := Lib.hid hDn20
      clear hDn20
      obtain rfl := IsDec.unique Dn6.out Dn20.out
      go_wp2_with fail
      refine (sameN ((((Hn9.out.keep hbn4).keep hbn5).keep hbn6).keep hbn7) (((Hn12.out.keep hbn5).keep hbn6).keep hbn7)).mono ?_
      rintro e wn8 ⟨rfl, hbn8⟩
      rw [decide_eq_true (rfl)]
      go_wp2_with fail
      refine (sameN (((Hn15.out.keep hbn6).keep hbn7).keep hbn8) ((Hn18.out.keep hbn7).keep hbn8)).mono ?_
      rintro e wn9 ⟨rfl, hbn9⟩
      rw [decide_eq_true (rfl)]
      go_wp2_with fail
      refine (Nt.known _).mono ?_
      rintro e wn10 ⟨rfl, hbn10⟩
      go_wp2_with fail
      have hbn1_s := hbn1.size
      have hbn2_s := hbn2.size
      have hbn3_s := hbn3.size
      have hbn4_s := hbn4.size
      have hbn5_s := hbn5.size
      have hbn6_s := hbn6.size
      have hbn7_s := hbn7.size
      have hbn8_s := hbn8.size
      have hbn9_s := hbn9.size
      go_ret
      exact ⟨rfl, (((((((((hbn1.trans (hbn2.mono (by omega))).trans (hbn3.mono (by omega))).trans (hbn4.mono (by omega))).trans (hbn5.mono (by omega))).trans (hbn6.mono (by omega))).trans (hbn7.mono (by omega))).trans (hbn8.mono (by omega))).trans (hbn9.mono (by omega))).trans (hbn10.mono (by omega)))⟩
end Go.Proofs.Ythndffacpijnoaa.bignatText
