/-
  Plain mathematics: one step of long division.
-/
import Derived.Test.YtpplleoiehnlkaaGuessPlain
namespace Go.Proofs.Ytpplleoiehnlkaa.Nt
set_option linter.unusedVariables false

section
variable {L V : List Int} {j : Nat}
/-- what lies beyond the window is nothing -/
theorem win_high (hL : Ds L) (hV : Ds V) (hlen : j + V.length + 1 ≤ L.length) (hb : N L < N V * Bp (j + 1)) : N (L.drop (j + V.length + 1)) = 0 := by
  have h1 := N_lt hV
  have e := take_drop_N L (j + V.length + 1) hlen
  have h2 := N_nonneg (hL.take (j + V.length + 1))
  have h3 := N_nonneg (hL.drop (j + V.length + 1))
  rcases Int.lt_or_eq_of_le h3 with h4 | h4
  · exfalso
    have hB : Bp (j + V.length + 1) = Bp V.length * Bp (j + 1) := by rw [← Bp_add]; congr 1; omega
    have a1 := Int.mul_le_mul_of_nonneg_right (show N V ≤ Bp V.length by omega) (show 0 ≤ Bp (j + 1) by have := Bp_pos (j + 1); omega)
    have a2 := Int.mul_le_mul_of_nonneg_left (show 1 ≤ N (L.drop (j + V.length + 1)) by omega) (show 0 ≤ Bp (j + V.length + 1) by have := Bp_pos (j + V.length + 1); omega)
    rw [Int.mul_one] at a2
    omega
  · exact h4.symm
theorem win_eq (hlen : j + V.length + 1 ≤ L.length) : L.drop j = (L.drop j).take (V.length + 1) ++ L.drop (j + V.length + 1) := by
  conv => lhs; rw [← List.take_append_drop (V.length + 1) (L.drop j)]
  rw [List.drop_drop, Nat.add_assoc]
theorem win_N (hL : Ds L) (hV : Ds V) (hlen : j + V.length + 1 ≤ L.length) (hb : N L < N V * Bp (j + 1)) : N (L.drop j) = N ((L.drop j).take (V.length + 1)) := by
  have e := congrArg N (win_eq (V := V) hlen)
  rw [N_app, win_high hL hV hlen hb, Int.mul_zero, Int.add_zero] at e
  exact e
theorem win_lt (hL : Ds L) (hV : Ds V) (hlen : j + V.length + 1 ≤ L.length) (hb : N L < N V * Bp (j + 1)) : N ((L.drop j).take (V.length + 1)) < N V * 4294967296 := by
  rw [← win_N hL hV hlen hb]
  have e := take_drop_N L j (by omega)
  have h2 := N_nonneg (hL.take j)
  rcases Int.lt_or_le (N (L.drop j)) (N V * 4294967296) with h | h
  · exact h
  · exfalso
    have a := Int.mul_le_mul_of_nonneg_left h (show 0 ≤ Bp j by have := Bp_pos j; omega)
    rw [Bp] at hb
    have : Bp j * (N V * 4294967296) = N V * (4294967296 * Bp j) := by rw [Int.mul_comm, Int.mul_assoc]
    omega
/-- a row whose number is taken modulo the window's end -/
theorem low_lt (M : List Int) (hM : Ds M) (k : Nat) (hk : k ≤ M.length) (hz : N (M.drop k) = 0) : N M < Bp k := by
  have e := take_drop_N M k hk
  rw [hz, Int.mul_zero, Int.add_zero] at e
  have := N_lt (hM.take k)
  have h : (M.take k).length = k := by simp; omega
  rw [h] at this
  omega
theorem drop_from (L M : List Int) (j k : Nat) (hj : j ≤ L.length) (hk : j ≤ k) : (L.take j ++ M).drop k = M.drop (k - j) := by
  have h : (L.take j).length = j := by simp; omega
  rw [List.drop_append, List.drop_eq_nil_of_le (by omega), List.nil_append, h]
/-- the multiple fits: the guess was exact -/
theorem sub_exact {g : Int} (hL : Ds L) (hV : Ds V) (hlen : j + V.length + 1 ≤ L.length) (hVp : 0 < N V) (hb : N L < N V * Bp (j + 1))
    (hq : N ((L.drop j).take (V.length + 1)) / N V ≤ g) (hF : smF g (L.drop j) V 0 0 = 0) :
    g = N ((L.drop j).take (V.length + 1)) / N V ∧ N (L.take j ++ smL g (L.drop j) V 0 0) = N L - Bp j * (g * N V) := by
  have e1 := smL_N g (L.drop j) V 0 0 (by simp; omega)
  rw [hF, Int.mul_zero] at e1
  have e2 := win_N hL hV hlen hb
  have h0 := N_nonneg (smL_ds g (L.drop j) V 0 0 (hL.drop j))
  refine ⟨?_, ?_⟩
  · have : g ≤ N ((L.drop j).take (V.length + 1)) / N V := by
      rw [Int.le_ediv_iff_mul_le hVp]; omega
    omega
  · rw [N_from L _ j (by omega), e1]
    have : N (L.drop j) - g * N V - 0 - 0 + 0 - N (L.drop j) = -(g * N V) := by omega
    rw [this, Int.mul_neg]; omega
/-- it does not fit: the guess was one too large, and adding back mends it -/
theorem sub_mend {g : Int} (hL : Ds L) (hV : Ds V) (hlen : j + V.length + 1 ≤ L.length) (hVp : 0 < N V) (hb : N L < N V * Bp (j + 1))
    (hq : g ≤ N ((L.drop j).take (V.length + 1)) / N V + 1) (hF : smF g (L.drop j) V 0 0 = 1) :
    g - 1 = N ((L.drop j).take (V.length + 1)) / N V ∧
    N ((L.take j ++ smL g (L.drop j) V 0 0).take j ++ abL ((L.take j ++ smL g (L.drop j) V 0 0).drop j) V 0) = N L - Bp j * ((g - 1) * N V) := by
  have e1 := smL_N g (L.drop j) V 0 0 (by simp; omega)
  rw [hF, Int.mul_one] at e1
  have e2 := win_N hL hV hlen hb
  have hz := win_high hL hV hlen hb
  have hd1 := smL_ds g (L.drop j) V 0 0 (hL.drop j)
  have hl1 := smL_len g (L.drop j) V 0 0
  have hdr1 := smL_drop g (L.drop j) V 0 0
  rw [List.drop_drop, ← Nat.add_assoc] at hdr1
  generalize hS : smL g (L.drop j) V 0 0 = S at *
  have hlS : S.length = L.length - j := by rw [hl1]; simp
  have hS2 : N S < Bp (V.length + 1) := low_lt S hd1 (V.length + 1) (by omega) (by rw [hdr1]; exact hz)
  have hlt : N (L.drop j) < g * N V := by omega
  have hg : g - 1 = N ((L.drop j).take (V.length + 1)) / N V := by
    have : N ((L.drop j).take (V.length + 1)) / N V < g := by rw [Int.ediv_lt_iff_lt_mul hVp]; omega
    omega
  refine ⟨hg, ?_⟩
  have hj : j ≤ L.length := by omega
  have t1 : (L.take j ++ S).take j = L.take j := by
    have h : (L.take j).length = j := by simp; omega
    rw [List.take_append_of_le_length (by omega), List.take_of_length_le (by omega)]
  have t2 : (L.take j ++ S).drop j = S := by rw [drop_from L S j j hj (Nat.le_refl _), Nat.sub_self]; rfl
  rw [t1, t2]
  have f1 := abL_N S V 0 (by omega)
  have f2 := abF_bd S V 0 hd1 hV (by omega) (by omega)
  have hd2 := abL_ds S V 0 hd1
  have hl2 := abL_len S V 0
  have hdr2 := abL_drop S V 0
  have hA2 : N (abL S V 0) < Bp (V.length + 1) := low_lt _ hd2 (V.length + 1) (by omega) (by rw [hdr2, hdr1]; exact hz)
  have hqm : (g - 1) * N V ≤ N (L.drop j) := by
    rw [hg, e2]; exact Int.ediv_mul_le _ (by omega)
  rw [Int.sub_mul, Int.one_mul] at hqm
  have hA : N (abL S V 0) = N (L.drop j) - (g * N V - N V) := by
    rcases f2 with h | h
    · rw [h, Int.mul_zero] at f1; omega
    · rw [h, Int.mul_one] at f1; omega
  rw [N_from L _ j hj, hA, Int.sub_mul, Int.one_mul]
  have : N (L.drop j) - (g * N V - N V) - N (L.drop j) = -(g * N V - N V) := by omega
  rw [this, Int.mul_neg]; omega
/-- the next remainder is small enough -/
theorem next_lt (hL : Ds L) (hV : Ds V) (hlen : j + V.length + 1 ≤ L.length) (hVp : 0 < N V) (hb : N L < N V * Bp (j + 1)) :
    N L - Bp j * (N ((L.drop j).take (V.length + 1)) / N V * N V) < N V * Bp j := by
  have e := take_drop_N L j (by omega)
  have e2 := win_N hL hV hlen hb
  have h1 := N_lt (hL.take j)
  have h : (L.take j).length = j := by simp; omega
  rw [h] at h1
  rw [← e2]
  have m := Int.emod_lt_of_pos (N (L.drop j)) hVp
  have d := Int.mul_ediv_add_emod (N (L.drop j)) (N V)
  rw [Int.mul_comm (N V)] at d
  generalize N (L.drop j) / N V * N V = D at *
  have a := Int.mul_le_mul_of_nonneg_left (show N (L.drop j) - D + 1 ≤ N V by omega) (show 0 ≤ Bp j by have := Bp_pos j; omega)
  rw [Int.mul_add, Int.mul_sub, Int.mul_one] at a
  rw [Int.mul_comm (N V)]
  omega
end
end Go.Proofs.Ytpplleoiehnlkaa.Nt
