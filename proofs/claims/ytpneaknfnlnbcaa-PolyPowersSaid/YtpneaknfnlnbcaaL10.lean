/-
  The laws of the polynomials: PolyPowers.
-/
import Derived.Test.YtpneaknfnlnbcaaPB
namespace Go.Proofs.Ytpneaknfnlnbcaa.Gx
open Go Go.RowKit Tw B Nt
set_option linter.unusedVariables false
set_option linter.unusedSimpArgs false
set_option maxHeartbeats 4000000
set_option maxRecDepth 20000
theorem pw_small {P : QL} (q1 : SzQ 1 P) (l1 : P.length ≤ 7) : ∀ m, m ≤ 6 → ∀ i, qs (co (powQ P m) i) ≤ 9157 := by
  have h1 : PE (powQ P 1) P := one_mul' P
  have h2 : PE (powQ P 2) (mulQ P P) := PE.mul h1 (PE.refl P)
  have h3 : PE (powQ P 3) (mulQ P (mulQ P P)) := (pow_add P 1 2).trans (PE.mul h1 h2)
  have h4 : PE (powQ P 4) (mulQ (mulQ P P) (mulQ P P)) := (pow_add P 2 2).trans (PE.mul h2 h2)
  have h5 : PE (powQ P 5) (mulQ P (mulQ (mulQ P P) (mulQ P P))) := (pow_add P 1 4).trans (PE.mul h1 h4)
  have h6 : PE (powQ P 6) (mulQ (mulQ P P) (mulQ (mulQ P P) (mulQ P P))) := (pow_add P 2 4).trans (PE.mul h2 h4)
  obtain ⟨q2, l2⟩ := two_m q1 q1 l1 l1
  have l4 := len_mul_le (mulQ P P) (mulQ P P)
  have q4 := (q2.mul q2 (by omega)).le (show 1 + (mulQ P P).length * (22 + 22 + 1) ≤ 631 by omega)
  have q3 := (q1.mul q2 (by omega)).le (show 1 + P.length * (1 + 22 + 1) ≤ 169 by omega)
  have q5 := (q1.mul q4 (by omega)).le (show 1 + P.length * (1 + 631 + 1) ≤ 4432 by omega)
  have q6 := (q2.mul q4 (by omega)).le (show 1 + (mulQ P P).length * (22 + 631 + 1) ≤ 9157 by omega)
  intro m hm i
  obtain rfl | rfl | rfl | rfl | rfl | rfl | rfl : m = 0 ∨ m = 1 ∨ m = 2 ∨ m = 3 ∨ m = 4 ∨ m = 5 ∨ m = 6 := by omega
  · exact Nat.le_trans (qs_list (fun q hq => by rw [List.mem_singleton.1 hq]; exact qs_one) i) (by decide)
  · rw [h1 i]; exact Nat.le_trans (q1.2 i) (by decide)
  · rw [h2 i]; exact Nat.le_trans (q2.2 i) (by decide)
  · rw [h3 i]; exact Nat.le_trans (q3.2 i) (by decide)
  · rw [h4 i]; exact Nat.le_trans (q4.2 i) (by decide)
  · rw [h5 i]; exact Nat.le_trans (q5.2 i) (by decide)
  · rw [h6 i]; exact q6.2 i
@[go_sem] noncomputable def EPI : Env := ((EPH).add 30 rPShS).add 28 rPPowS
theorem EPI_ok : EPI.Ok := ((EPH_ok).add rPSh_ok).add rPPow_ok
@[go_sem] def lPwS : Spec := ⟨[.slice (.int .i64), .int .i64], fun d => (.dat .bool true, [])⟩
theorem lPw_ok : SpecOk Try.prog 5 lPwS := by
  refine fn_ok EPI_ok lPwS Try.func5 rfl (by decide) (N := 93) rfl (res := [.tmp 4]) rfl (by decide) [] [] [] 100 (by kernel_rfl) ?_
  rintro ⟨(x:List Int), (n:Int), _⟩ hw hp
  refine ⟨rfl, fun H hH => ?_⟩
  dsimp only [go_sem] at hw hp ⊢
  have lx := (ofP_len x).1
  have sx := ofP_sz x
  have qx := ofP_szq x
  have ek : bitsI .and .i64 n 7 = n % 8 := andMask n 3 (by omega)
  rw [ek]
  obtain ⟨k, hk, hk6⟩ : ∃ k : Int, n % 8 - 1 = k ∧ k.toNat ≤ 6 ∧ -1 ≤ k ∧ k ≤ 6 := ⟨n % 8 - 1, rfl, by omega, by omega, by omega⟩
  rw [hk]
  have lP : (pf (ofP x)).length ≤ 7 := by rw [pf_len]; exact lx
  have hs := pw_small qx lP
  have hM : min 1024 (((ofP x).length - 1) * k.toNat + 1) + 1 ≤ 38 := by
    have := Nat.mul_le_mul (show (ofP x).length - 1 ≤ 6 by omega) hk6.1
    omega
  have hM2 := Nat.mul_le_mul hM (Nat.le_refl (9157 + 9157 + 3))
  have b1 : pwB (ofP x) k := ⟨9157, sx.le (by decide), fun m hm => hs m (by omega), by omega⟩
  have b2 : rpB (ofP x) k := ⟨9157, sx.le (by decide), fun m hm => hs m (by omega), by omega⟩
  have c1 : Sz 5000000 (ofP x) := sx.le (by decide)
  have c2 : Sz 2000000 (ofP x) := sx.le (by decide)
  have c3 : inR .i64 k := by rw [inR_i64]; omega
  simp only [b1, b2, c1, c2, c3, psame_self]
  simp
  exact c3
end Go.Proofs.Ytpneaknfnlnbcaa.Gx
