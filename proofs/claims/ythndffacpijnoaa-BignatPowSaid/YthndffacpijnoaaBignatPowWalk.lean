/-
  The walk of BignatPow.
-/
import Derived.Test.YthndffacpijnoaaKnown
import Derived.Test.YthndffacpijnoaaRefI
namespace Go.Proofs.Ythndffacpijnoaa.bignatPow
open Go.ChangeShapes Go.WideShapes Go.ChangeAt Go.RowKit B Nt
set_option linter.unusedVariables false

theorem and31 (n : Int) : bits .and .i64 n 31 = n % 32 := by
  have h127 : (BitVec.ofInt 64 31).toNat = 2 ^ 5 - 1 := by decide
  have key : (BitVec.ofInt 64 n &&& BitVec.ofInt 64 31).toNat = (n % ((2 ^ 64 : Nat) : Int)).toNat % 2 ^ 5 := by
    rw [BitVec.toNat_and, BitVec.toNat_ofInt, h127, Nat.and_two_pow_sub_one_eq_mod]
  show IntKind.i64.wrap ((BitVec.ofInt 64 n &&& BitVec.ofInt 64 31).toNat : Nat) = n % 32
  rw [key, IntKind.wrap_i64]
  omega

set_option maxHeartbeats 2000000 in
theorem walk (a0 : Option Addr) (len0 cap0 : Nat) (z0 : List Int) (a1 : Int) (w : World) (w0 : IsRow .u32 w a0 len0 cap0 z0) (w1 : (Lit.int .i64 a1).wf = true) :
    Calls Try.prog 8 #[.slice a0 len0 cap0, .int .i64 a1] w fun e w' => e = .returned (.bool true) ∧ Below w.heap.size w w' := by
  have X0 := Lib.hid (Row.of w0)
  clear w0 w1
  generalize z0.take len0 = l0 at *
  have HAND := Lib.hid (and31 a1)
  go_enter Try.func8, Try.ntmps8
  go_wp2_with fail
  refine (baseNat _ l0 _ X0.out).mono ?_
  rintro e wn1 ⟨vn1, rfl, rn2, hbn1⟩
  have Hn3 : Hid (Num wn1 vn1 8 (N (bnat l0))) := ⟨_, rn2, bnat_len _, rfl⟩
  have Rn4 := Lib.hid rn2
  clear rn2
  go_wp2_with fail
  rw [HAND.out]
  have hk0 : 0 ≤ a1 % 32 ∧ a1 % 32 < 32 := by omega
  generalize a1 % 32 = k at *
  clear HAND
  refine (Nt.pow _ 8 (N (bnat l0)) (k) _ Hn3.out (by omega) (by omega) (by omega)).mono ?_
  rintro e wn2 ⟨vn5, rfl, rn6, hbn2⟩
  have Hn7 := Lib.hid rn6
  clear rn6
  go_wp2_with fail
  refine (rPow _ 8 (N (bnat l0)) (k) _ (Hn3.out.keep hbn2) (by omega) (by omega) (by omega)).mono ?_
  rintro e wn3 ⟨vn8, rfl, rn9, hbn3⟩
  have Hn10 := Lib.hid rn9
  clear rn9
  go_wp2_with fail
  refine (Nt.pow _ 8 (N (bnat l0)) (-1 - k) _ ((Hn3.out.keep hbn2).keep hbn3) (by omega) (by omega) (by omega)).mono ?_
  rintro e wn4 ⟨vn11, rfl, rn12, hbn4⟩
  rw [show powE (N (bnat l0)) (-1 - k) = 1 by rw [powE, if_pos (by omega)]]
  have Hn13 := Lib.hid rn12
  clear rn12
  go_wp2_with fail
  refine (sameN ((Hn7.out.keep hbn3).keep hbn4) (Hn10.out.keep hbn4)).mono ?_
  rintro e wn5 ⟨rfl, hbn5⟩
  rw [decide_eq_true (rfl)]
  go_wp2_with fail
  refine (Nt.known _).mono ?_
  rintro e wn6 ⟨rfl, hbn6⟩
  go_wp2_with fail
  have hbn1_s := hbn1.size
  have hbn2_s := hbn2.size
  have hbn3_s := hbn3.size
  have hbn4_s := hbn4.size
  have hbn5_s := hbn5.size
  go_ret
  exact ⟨rfl, (((((hbn1.trans (hbn2.mono (by omega))).trans (hbn3.mono (by omega))).trans (hbn4.mono (by omega))).trans (hbn5.mono (by omega))).trans (hbn6.mono (by omega)))⟩
end Go.Proofs.Ythndffacpijnoaa.bignatPow
