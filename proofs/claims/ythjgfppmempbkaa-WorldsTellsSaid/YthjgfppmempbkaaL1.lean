/-
  The law RationalCanonical.
-/
import Derived.Test.YthjgfppmempbkaaD8
namespace Go.Proofs.Ythjgfppmempbkaa.Gx
open Go Go.RowKit Tw B Nt
set_option linter.unusedVariables false
set_option linter.unusedSimpArgs false
set_option maxHeartbeats 4000000
set_option maxRecDepth 20000
theorem bnat_le (l : List Int) : (bnat l).length ≤ l.length := by
  unfold bnat
  rw [List.length_map, List.length_take]
  omega
theorem fs_raw (a : Bool) {l k : List Int} {c : Nat} (h1 : l.length ≤ c) (h2 : k.length ≤ c) : fs (a, bnat l, bnat k) ≤ c :=
  Nat.max_le.2 ⟨Nat.le_trans (bnat_le l) h1, Nat.le_trans (bnat_le k) h2⟩
theorem Fd_raw (a : Bool) {l k : nT.den} (h1 : wfD nT l) (h2 : wfD nT k) : Fd (a, bnat l, bnat k) :=
  ⟨bnat_ds fun d hd => inR_u32.1 (h1.2 d hd), bnat_ds fun d hd => inR_u32.1 (h2.2 d hd)⟩
theorem isCan_qf (q : Rat) : isCan (qf q) = true := by
  unfold isCan
  rw [fq_qf]
  exact decide_eq_true rfl
/-- both parts times a number -/
theorem fq_scale (a : Bool) {l k : List Int} (hl : Ds l) (hk : Ds k) {m : Int} (hm : 0 < m) : fq (a, dg (N l * m), dg (N k * m)) = fq (a, l, k) := by
  unfold fq
  dsimp only
  rw [N_dg (Int.mul_nonneg (N_nonneg hl) (by omega)), N_dg (Int.mul_nonneg (N_nonneg hk) (by omega))]
  rcases Int.lt_or_eq_of_le (N_nonneg hk) with h | h
  · exact (mk_scale h hm).symm
  · rw [← h, Int.zero_mul, mk_zero (Or.inr rfl), mk_zero (Or.inr rfl)]
attribute [go_sem] List.append Array.append
@[go_sem] noncomputable def E6 : Env := (E5).add 72 rFComplS
theorem E6_ok : E6.Ok := (E5_ok).add rFCompl_ok
end Go.Proofs.Ythjgfppmempbkaa.Gx
