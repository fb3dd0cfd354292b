/-
  The law RationalCanonical.
-/
import Derived.Test.YtpplleoiehnlkaaD8
namespace Go.Proofs.Ytpplleoiehnlkaa.Gx
open Go Go.RowKit Tw B Nt
set_option linter.unusedVariables false
set_option linter.unusedSimpArgs false
set_option maxHeartbeats 4000000
set_option maxRecDepth 20000
theorem bnat_le (l : List Int) : (bnat l).length ≤ l.length := by
  unfold bnat
  rw [List.length_map, List.length_take]
  omega
theorem fs_raw (a : Bool) {l k : List Int} {c : Nat} (h1 : l.length ≤ c) (h2 : k.length ≤ c) : fs (a, bnat l, bnat k) ≤ c :=
  Nat.max_le.2 ⟨Nat.le_trans (bnat_le l) h1, Nat.le_trans (bnat_le k) h2⟩
theorem Fd_raw (a : Bool) {l k : nT.den} (h1 : wfD nT l) (h2 : wfD nT k) : Fd (a, bnat l, bnat k) :=
  ⟨bnat_ds fun d hd => inR_u32.1 (h1.2 d hd), bnat_ds fun d hd => inR_u32.1 (h2.2 d hd)⟩
theorem isCan_qf (q : Rat) : isCan (qf q) = true := by
  unfold isCan
  rw [fq_qf]
  exact decide_eq_true rfl
/-- both parts times a number -/
theorem fq_scale (a : Bool) {l k : List Int} (hl : Ds l) (hk : Ds k) {m : Int} (hm : 0 < m) : fq (a, dg (N l * m), dg (N k * m)) = fq (a, l, k) := by
  unfold fq
  dsimp only
  rw [N_dg (Int.mul_nonneg (N_nonneg hl) (by omega)), N_dg (Int.mul_nonneg (N_nonneg hk) (by omega))]
  rcases Int.lt_or_eq_of_le (N_nonneg hk) with h | h
  · exact (mk_scale h hm).symm
  · rw [← h, Int.zero_mul, mk_zero (Or.inr rfl), mk_zero (Or.inr rfl)]
attribute [go_sem] List.append Array.append
@[go_sem] noncomputable def E6 : Env := (((E5.add 45 rFComplS).add 38 rFCmpS).add 37 rFIsCanS).add 32 qIsCanS
theorem E6_ok : E6.Ok := (((E5_ok.add rFCompl_ok).add rFCmp_ok).add rFIsCan_ok).add qIsCan_ok
@[go_sem] def lCanonS : Spec := ⟨[.bool, nT, nT, .int .u32], fun d => (.dat .bool true, [])⟩
theorem lCanon_ok : SpecOk Try.prog 8 lCanonS := by
  refine fn_ok E6_ok lCanonS Try.func8 rfl (by decide) (N := 83) rfl (res := [.tmp 8]) rfl (by decide) [] [] [] 100 (by kernel_rfl) ?_
  rintro ⟨a, n, d, (k:Int), _⟩ hw hp
  refine ⟨rfl, fun H hH => ?_⟩
  dsimp only [go_sem] at hw hp ⊢
  have hk := hw.2.2.2.1
  simp only [inR, lo, hi] at hk
  and_intros <;> try exact fun h => h
  · exact fun _ => ⟨rfl, trivial⟩
  · intro h
    simp only [Bool.or_eq_false_iff, decide_eq_false_iff_not] at h
    obtain ⟨h1, h2⟩ := h
    have s1 := fs_raw a (l := n) (k := d) (c := 4) (by omega) (by omega)
    have d1 := Fd_raw a hw.2.1 hw.2.2.1
    have b1 := bnat_le n
    have b2 := bnat_le d
    have b3 := dg_small (n := k + 1) (by omega) (by omega)
    have e1 := fq_scale a d1.1 d1.2 (m := k + 1) (by omega)
    have sX := qs_fq d1
    have m1 := dg_mul d1.1 (ds_dg (k + 1))
    have m2 := dg_mul d1.2 (ds_dg (k + 1))
    rw [N_dg (show 0 ≤ k + 1 by omega)] at m1 m2
    rw [N_dg (show 0 ≤ k + 1 by omega)]
    dsimp only at e1 m1 m2
    generalize hX : ((a, bnat n, bnat d) : fT.den) = X at *
    have s2 : fs (a, dg (N (bnat n) * (k + 1)), dg (N (bnat d) * (k + 1))) ≤ 6 := Nat.max_le.2 ⟨by dsimp only; omega, by dsimp only; omega⟩
    generalize hY : ((a, dg (N (bnat n) * (k + 1)), dg (N (bnat d) * (k + 1))) : fT.den) = Y at *
    have p1 := qs_mul (fq X) (fq X)
    generalize hq : fq X = q at *
    have u1 : inR .u64 k := by simp only [inR, lo, hi]; omega
    have u2 : inR .u64 (k + 1) := by simp only [inR, lo, hi]; omega
    have t0 : (bnat n).length ≤ 5000000 := by omega
    have t1 : (bnat d).length ≤ 5000000 := by omega
    have t2 : (dg (k + 1)).length ≤ 5000000 := by omega
    have t3 : fs X ≤ 5000000 := by omega
    have t4 : fs Y ≤ 5000000 := by omega
    have t5 : fs (qf q) ≤ 5000000 := by rw [fs_qf]; omega
    have t6 : fs (qf q) ≤ 900000 := by rw [fs_qf]; omega
    have t7 : fs (qf (q * q)) ≤ 900000 := by rw [fs_qf]; omega
    have t8 : fs (qf 0) ≤ 900000 := by rw [fs_qf]; have := qs_zero; omega
    have t9 : fs (qf 0) ≤ 5000000 := by rw [fs_qf]; have := qs_zero; omega
    have t10 : (0 : Int) < ((qf q).2.2.length : Int) := by have := qf_den q; omega
    simp only [e1, hq, u1, u2, t0, t1, t2, t3, t4, t5, t6, t7, t8, t9, t10, isCan_qf, fq_qf, Rat.sub_self, sgQ_zero, true_and, decide_true, Bool.and_true, Bool.and_self, and_self, imp_self, true_implies, and_true, implies_true]
    exact ⟨u1, u2⟩
end Go.Proofs.Ytpplleoiehnlkaa.Gx
