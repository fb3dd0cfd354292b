/-
  What the laws of the polynomials share.
-/
import Derived.Test.YtpneaknfnlnbcaaP6
namespace Go.Proofs.Ytpneaknfnlnbcaa.Gx
open Go Go.RowKit Tw B Nt
set_option linter.unusedVariables false
set_option linter.unusedSimpArgs false
set_option maxHeartbeats 4000000
set_option maxRecDepth 20000
theorem len_mul_le : ∀ p q : QL, (mulQ p q).length ≤ p.length + q.length
  | [], q => Nat.zero_le _
  | a :: p, q => by
    have ih := len_mul_le p q
    rw [mulQ, len_add, len_sc, List.length_cons, List.length_cons]
    omega
theorem SzQ.mul {B C : Nat} {L M : QL} (h : SzQ B L) (k : SzQ C M) (hl : L.length + M.length ≤ 2000) : SzQ (1 + L.length * (B + C + 1)) (mulQ L M) := by
  refine ⟨Nat.le_trans (len_mul_le L M) hl, fun i => ?_⟩
  have := mul_b h.2 k.2 i L.length (Nat.le_refl _)
  rwa [List.take_of_length_le (Nat.le_refl _)] at this
theorem SzQ.ev (x : Rat) {B : Nat} : ∀ {L : QL}, SzQ B L → qs (evQ L x) ≤ 1 + L.length * (qs x + B + 2)
  | [], _ => Nat.le_trans qs_zero (by omega)
  | a :: L, h => by
    have hL : SzQ B L := ⟨by have := h.1; rw [List.length_cons] at this; omega, fun i => by rw [← co_succ a]; exact h.2 _⟩
    have ih := SzQ.ev x hL
    have h0 := h.2 0
    rw [co_zero] at h0
    have h1 := qs_add (evQ L x * x) a
    have h2 := qs_mul (evQ L x) x
    rw [ev_cons, List.length_cons, Nat.succ_mul]
    omega
theorem fq_ofF (n : Int) : fq (ofF n) = if bitsI .and .i64 n 3 = 3 then 0 else bfr n := by
  have key : ∀ c : fT.den, fq ((c.1, c.2.1 ++ [0], c.2.2 ++ [0]) : fT.den) = fq c := fun c => by
    unfold fq
    dsimp only
    rw [N_snoc, N_snoc, Int.mul_zero, Int.mul_zero, Int.add_zero, Int.add_zero]
  have k2 : fq (if bitsI .and .i64 n 3 = 3 then f0 else qf (bfr n)) = if bitsI .and .i64 n 3 = 3 then 0 else bfr n := by
    split
    · exact fq_f0
    · exact fq_qf _
  unfold ofF
  dsimp only
  split
  · rw [key, k2]
  · rw [k2]
theorem fs_ofF (n : Int) : fs (ofF n) ≤ 2 := by
  have k2 : fs (if bitsI .and .i64 n 3 = 3 then f0 else qf (bfr n)) ≤ 1 := by
    split
    · exact Nat.zero_le _
    · rw [fs_qf]; exact qs_le (bfr_b n)
  unfold ofF
  dsimp only
  generalize (if bitsI .and .i64 n 3 = 3 then f0 else qf (bfr n)) = c at *
  have k3 : max c.2.1.length c.2.2.length ≤ 1 := k2
  split
  · show max (List.length (c.2.1 ++ [0])) (List.length (c.2.2 ++ [0])) ≤ 2
    rw [List.length_append, List.length_append, List.length_singleton]
    omega
  · show max c.2.1.length c.2.2.length ≤ 2
    omega
theorem ofP_len (l : List Int) : (ofP l).length ≤ 7 ∧ (ofP l).length ≤ l.length := by
  unfold ofP
  rw [List.length_map, List.length_take]
  omega
theorem ofP_sz (l : List Int) : Sz 2 (ofP l) := ⟨by have := ofP_len l; omega, fun f hf => by
  obtain ⟨n, -, rfl⟩ := List.mem_map.1 hf
  exact fs_ofF n⟩
theorem ofP_szq (l : List Int) : SzQ 1 (pf (ofP l)) := ⟨by rw [pf_len]; have := ofP_len l; omega, fun i => by
  refine qs_list (fun q hq => ?_) i
  obtain ⟨f, hf, rfl⟩ := List.mem_map.1 hq
  obtain ⟨n, -, rfl⟩ := List.mem_map.1 hf
  rw [fq_ofF]
  split
  · exact qs_zero
  · exact qs_le (bfr_b n)⟩
theorem pcm_l (L M : QL) : pc (mulQ (pf (pc L)) M) = pc (mulQ L M) := pc_eq.2 (by rw [pf_pc]; exact PE.mul (PE.of_tr _) (PE.refl _))
theorem pcm_r (L M : QL) : pc (mulQ L (pf (pc M))) = pc (mulQ L M) := pc_eq.2 (by rw [pf_pc]; exact PE.mul (PE.refl _) (PE.of_tr _))
theorem pca_l (L M : QL) : pc (addQ (pf (pc L)) M) = pc (addQ L M) := pc_eq.2 (by rw [pf_pc]; exact PE.add (PE.of_tr _) (PE.refl _))
theorem pca_r (L M : QL) : pc (addQ L (pf (pc M))) = pc (addQ L M) := pc_eq.2 (by rw [pf_pc]; exact PE.add (PE.refl _) (PE.of_tr _))
theorem ev_pc (L : QL) (x : Rat) : evQ (pf (pc L)) x = evQ L x := by rw [pf_pc, ev_tr]
theorem mulB_small {p q : List fT.den} {B C : Nat} (h1 : Sz B p) (h2 : Sz C q) (hp : p.length ≤ 39) (hq : q.length ≤ 500) (hB : B ≤ 40000) (hC : C ≤ 40000) : mulB p q :=
  ⟨B, C, h1, h2, Nat.le_trans (Nat.mul_le_mul (show p.length + 1 ≤ 40 by omega) (show B + C + 3 ≤ 80003 by omega)) (by decide), by omega⟩
/-- products of two small ones -/
theorem two_m {L M : QL} (h : SzQ 1 L) (k : SzQ 1 M) (hl : L.length ≤ 7) (kl : M.length ≤ 7) : SzQ 22 (mulQ L M) ∧ (mulQ L M).length ≤ 14 := by
  have h1 := len_mul_le L M
  refine ⟨(h.mul k (by omega)).le ?_, by omega⟩
  have := Nat.mul_le_mul hl (show 1 + 1 + 1 ≤ 3 by omega)
  omega
theorem two_a {L M : QL} (h : SzQ 1 L) (k : SzQ 1 M) (hl : L.length ≤ 7) (kl : M.length ≤ 7) : SzQ 3 (addQ L M) ∧ (addQ L M).length ≤ 7 :=
  ⟨h.add k, by rw [len_add]; omega⟩
theorem ev_small {L : QL} {B k C : Nat} (x : Rat) (h : SzQ B L) (hl : L.length ≤ k) (hx : qs x ≤ 1) (hC : 1 + k * (B + 3) ≤ C) : fs (qf (evQ L x)) ≤ C := by
  have h1 := h.ev x
  have h2 := Nat.mul_le_mul hl (show qs x + B + 2 ≤ B + 3 by omega)
  rw [fs_qf]
  omega
@[go_sem] noncomputable def EPA : Env := (((EP9).add 12 l3sameS).add 15 l3fracS).add 19 l3knS
theorem EPA_ok : EPA.Ok := (((EP9_ok).add l3same_ok).add l3frac_ok).add l3kn_ok
end Go.Proofs.Ytpneaknfnlnbcaa.Gx
