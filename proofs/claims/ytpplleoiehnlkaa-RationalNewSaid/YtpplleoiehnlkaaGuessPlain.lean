/-
  Plain mathematics: the guess of a quotient's digit from the first digits is exact or one too large.
-/
import Derived.Test.YtpplleoiehnlkaaLongPlain
namespace Go.Proofs.Ytpplleoiehnlkaa.Nt
set_option linter.unusedVariables false

section
variable {M v1 v2 top u2 Vl Ul Wn Vn : Int}
theorem gd_top (hM : 1 ≤ M) (hVl : Vl < M) (hUl : 0 ≤ Ul) (hv2 : v2 < 4294967296) (hu2 : 0 ≤ u2)
    (eW : Wn = Ul + M * (u2 + 4294967296 * top)) (eV : Vn = Vl + M * (v2 + 4294967296 * v1)) (h : Wn < Vn * 4294967296) : top ≤ v1 * 4294967296 + 4294967295 := by
  rcases Int.lt_or_le (v2 + 4294967296 * v1) top with hh | hh
  · exfalso
    have a := Int.mul_le_mul_of_nonneg_left (show v2 + 4294967296 * v1 + 1 ≤ top by omega) (show 0 ≤ M by omega)
    have b := Int.mul_nonneg (show 0 ≤ M by omega) hu2
    have e1 : M * (u2 + 4294967296 * top) = M * u2 + 4294967296 * (M * top) := by rw [Int.mul_add, Int.mul_left_comm]
    have e2 : (Vl + M * (v2 + 4294967296 * v1)) * 4294967296 = 4294967296 * Vl + 4294967296 * (M * (v2 + 4294967296 * v1)) := by rw [Int.mul_comm, Int.mul_add]
    rw [Int.mul_add M _ 1, Int.mul_one] at a
    rw [eW, eV, e1, e2] at h
    omega
  · omega
theorem gd_start {q : Int} (hM : 1 ≤ M) (hVl : 0 ≤ Vl) (hUl : Ul < M) (hv1 : 1 ≤ v1) (hv2 : 0 ≤ v2) (hu2 : u2 < 4294967296) (hq : 0 ≤ q)
    (eW : Wn = Ul + M * (u2 + 4294967296 * top)) (eV : Vn = Vl + M * (v2 + 4294967296 * v1)) (h : q * Vn ≤ Wn) : q ≤ top / v1 := by
  rw [Int.le_ediv_iff_mul_le (by omega)]
  rcases Int.lt_or_le top (q * v1) with hh | hh
  · exfalso
    have a1 := Int.mul_le_mul_of_nonneg_left (show 4294967296 * v1 ≤ v2 + 4294967296 * v1 by omega) (show 0 ≤ M by omega)
    have a2 := Int.mul_le_mul_of_nonneg_left (show M * (4294967296 * v1) ≤ Vn by omega) hq
    have e1 : q * (M * (4294967296 * v1)) = 4294967296 * (M * (q * v1)) := by
      rw [Int.mul_left_comm M, Int.mul_left_comm q 4294967296, Int.mul_left_comm q M]
    have a3 := Int.mul_le_mul_of_nonneg_left (show top + 1 ≤ q * v1 by omega) (show 0 ≤ M by omega)
    have a4 := Int.mul_le_mul_of_nonneg_left (show u2 ≤ 4294967295 by omega) (show 0 ≤ M by omega)
    have e2 : M * (u2 + 4294967296 * top) = M * u2 + 4294967296 * (M * top) := by rw [Int.mul_add, Int.mul_left_comm]
    rw [Int.mul_add, Int.mul_one] at a3
    rw [e2] at eW
    rw [e1] at a2
    omega
  · exact hh
theorem gd_down {q g rest : Int} (hM : 1 ≤ M) (hVl : 0 ≤ Vl) (hUl : Ul < M) (hg : 0 ≤ g) (hV : 1 ≤ Vn)
    (eW : Wn = Ul + M * (u2 + 4294967296 * top)) (eV : Vn = Vl + M * (v2 + 4294967296 * v1)) (h : q * Vn ≤ Wn) (hlt : Wn < Vn * 4294967296) (ht : top = g * v1 + rest)
    (hbad : 4294967296 ≤ g ∨ rest * 4294967296 + u2 < g * v2) : q ≤ g - 1 := by
  rcases Int.lt_or_le (g - 1) q with hh | hh
  · exfalso
    have a0 := Int.mul_le_mul_of_nonneg_right (show g ≤ q by omega) (show 0 ≤ Vn by omega)
    rcases hbad with hb | hb
    · have a1 := Int.mul_le_mul_of_nonneg_right (show 4294967296 ≤ g by omega) (show 0 ≤ Vn by omega)
      rw [Int.mul_comm Vn] at hlt
      omega
    · have e1 : g * (v2 + 4294967296 * v1) = g * v2 + 4294967296 * (g * v1) := by rw [Int.mul_add, Int.mul_left_comm]
      have a1 : u2 + 4294967296 * top + 1 ≤ g * (v2 + 4294967296 * v1) := by rw [e1]; omega
      have a2 := Int.mul_le_mul_of_nonneg_left a1 (show 0 ≤ M by omega)
      have a3 := Int.mul_nonneg hg hVl
      have e2 : g * Vn = g * Vl + M * (g * (v2 + 4294967296 * v1)) := by rw [eV, Int.mul_add, Int.mul_left_comm]
      rw [Int.mul_add M _ 1, Int.mul_one] at a2
      omega
  · exact hh
theorem gd_end {q g rest : Int} (hM : 1 ≤ M) (hVl : 0 ≤ Vl ∧ Vl < M) (hUl : 0 ≤ Ul) (hg : 0 ≤ g ∧ g < 4294967296) (hv1 : 1 ≤ v1) (hv2 : 0 ≤ v2 ∧ v2 < 4294967296) (hu2 : 0 ≤ u2)
    (eW : Wn = Ul + M * (u2 + 4294967296 * top)) (eV : Vn = Vl + M * (v2 + 4294967296 * v1)) (h : Wn < (q + 1) * Vn) (ht : top = g * v1 + rest)
    (hgood : 4294967296 ≤ rest ∨ g * v2 ≤ rest * 4294967296 + u2) : g ≤ q + 1 := by
  have hg2 : g * v2 ≤ rest * 4294967296 + u2 := by
    rcases hgood with hb | hb
    · have := mul_bd hg hv2; omega
    · exact hb
  rcases Int.lt_or_le (q + 1) g with hh | hh
  · exfalso
    have e1 : g * (v2 + 4294967296 * v1) = g * v2 + 4294967296 * (g * v1) := by rw [Int.mul_add, Int.mul_left_comm]
    have a1 : g * (v2 + 4294967296 * v1) ≤ u2 + 4294967296 * top := by rw [e1]; omega
    have a2 := Int.mul_le_mul_of_nonneg_left a1 (show 0 ≤ M by omega)
    have e2 : g * Vn = g * Vl + M * (g * (v2 + 4294967296 * v1)) := by rw [eV, Int.mul_add, Int.mul_left_comm]
    have a3 := Int.mul_le_mul_of_nonneg_left (show Vl ≤ M by omega) hg.1
    have a4 := Int.mul_le_mul_of_nonneg_right (show g ≤ 4294967295 by omega) (show 0 ≤ M by omega)
    have a5 := Int.mul_le_mul_of_nonneg_left (show 4294967296 ≤ v2 + 4294967296 * v1 by omega) (show 0 ≤ M by omega)
    have hV : 1 ≤ Vn := by omega
    have a6 := Int.mul_le_mul_of_nonneg_right (show q + 1 + 1 ≤ g by omega) (show 0 ≤ Vn by omega)
    rw [Int.add_mul _ 1, Int.one_mul] at a6
    omega
  · exact hh
end

/-- the first digits of a row -/
theorem N_top2 {l : List Int} (h : Ds l) (n : Nat) (hn : l.length = n + 2) :
    N l = N (l.take n) + Bp n * (l[n]?.getD 0 + 4294967296 * l[n + 1]?.getD 0) ∧ 0 ≤ N (l.take n) ∧ N (l.take n) < Bp n := by
  have e := take_drop_N l n (by omega)
  have e1 : N (l.drop n) = l[n]?.getD 0 + 4294967296 * l[n + 1]?.getD 0 := by
    rw [N_drop (by omega), N_drop (by omega), List.drop_eq_nil_of_le (by omega)]; simp [N]
  have h1 := N_nonneg (h.take n)
  have h2 := N_lt (h.take n)
  have h3 : (l.take n).length = n := by simp; omega
  rw [h3] at h2
  rw [e1] at e
  exact ⟨e, h1, h2⟩
theorem N_top3 {l : List Int} (h : Ds l) (n : Nat) (hn : l.length = n + 3) :
    N l = N (l.take n) + Bp n * (l[n]?.getD 0 + 4294967296 * (l[n + 2]?.getD 0 * 4294967296 + l[n + 1]?.getD 0)) ∧ 0 ≤ N (l.take n) ∧ N (l.take n) < Bp n := by
  have e := take_drop_N l n (by omega)
  have e1 : N (l.drop n) = l[n]?.getD 0 + 4294967296 * (l[n + 2]?.getD 0 * 4294967296 + l[n + 1]?.getD 0) := by
    rw [N_drop (by omega), N_drop (by omega), N_drop (by omega), List.drop_eq_nil_of_le (by omega), show n + 1 + 1 = n + 2 from rfl]; simp [N]; omega
  have h1 := N_nonneg (h.take n)
  have h2 := N_lt (h.take n)
  have h3 : (l.take n).length = n := by simp; omega
  rw [h3] at h2
  rw [e1] at e
  exact ⟨e, h1, h2⟩
end Go.Proofs.Ytpplleoiehnlkaa.Nt
