/-
  The reference's polynomials: PolyMul.
-/
import Derived.Test.YtpneaknfnlnbcaaP8
namespace Go.Proofs.Ytpneaknfnlnbcaa.Gx
open Go Go.RowKit Tw B Nt
set_option linter.unusedVariables false
set_option linter.unusedSimpArgs false
set_option maxHeartbeats 4000000
set_option maxRecDepth 20000
def rmB (p q : List fT.den) : Prop := ∃ B C, Sz B p ∧ Sz C q ∧ (p.length + 1) * (B + C + 3) ≤ 900000 ∧ p.length + q.length ≤ 2000
@[go_sem] noncomputable def EPB : Env := (EPA).add 33 rPNormS
theorem EPB_ok : EPB.Ok := (EPA_ok).add rPNorm_ok
@[go_sem] def rPMulS : Spec := ⟨[(.slice fT), (.slice fT)], fun d => (.dat (.slice fT) (pc (mulQ (pf d.1) (pf d.2.1))), [rmB d.1 d.2.1])⟩
theorem rPMul_ok : SpecOk Try.prog 35 rPMulS := by
  refine fn_ok EPB_ok rPMulS Try.func35 rfl (by decide) (N := 58) rfl (res := [.tmp 4]) rfl (by decide) [] [(11, [0])] [] 100 (by kernel_rfl) ?_
  rintro ⟨p, q, _⟩ hw hp
  refine ⟨rfl, fun H hH => ?_⟩
  dsimp only [go_sem] at hw hp ⊢
  obtain ⟨⟨B, C, hp1, hp2, hBC, hlen⟩, -⟩ := hp
  have w1 := hw.1.2
  have w2 := hw.2.1.2
  change List fT.den at p q
  have hz : zd (.pair .bool (.pair (.slice (.int .u32)) (.slice (.int .u32)))) = f0 := rfl
  have hB1 := Nat.mul_le_mul (show 1 ≤ p.length + 1 by omega) (Nat.le_refl (B + C + 3))
  have sz1 : Sz 1000000 p := hp1.le (by omega)
  have sz2 : Sz 1000000 q := hp2.le (by omega)
  have lP : (pf p).length = p.length := pf_len p
  have lQ : (pf q).length = q.length := pf_len q
  have cP : ∀ i, fq (p.getD i f0) = co (pf p) i := fun i => (co_pf p i).symm
  have cQ : ∀ i, fq (q.getD i f0) = co (pf q) i := fun i => (co_pf q i).symm
  have bP : ∀ i, qs (co (pf p) i) ≤ B + 1 := fun i => qs_at w1 hp1 i
  have bQ : ∀ i, qs (co (pf q) i) ≤ C + 1 := fun i => qs_at w2 hp2 i
  have fp : ∀ i, fs (p.getD i f0) ≤ 1000000 := sz1.at
  have fq' : ∀ i, fs (q.getD i f0) ≤ 1000000 := sz2.at
  have hbd : ∀ i j n, i ≤ p.length → qs (mG (pf p) (pf q) i j n) ≤ 900001 := fun i j n hi => by
    have h1 := mG_b bP bQ n (show i ≤ (pf p).length by omega) j
    have h2 := Nat.mul_le_mul (show i + 1 ≤ p.length + 1 by omega) (show B + 1 + (C + 1) + 1 ≤ B + C + 3 by omega)
    omega
  have hxy : ∀ i j, qs (co (pf p) i * co (pf q) j) ≤ 900001 := fun i j => by
    have h1 := qs_mul (co (pf p) i) (co (pf q) j)
    have h2 := bP i
    have h3 := bQ j
    omega
  generalize hPd : pf p = P at *
  generalize hQd : pf q = Q at *
  rw [hz]
  refine ⟨fun h => h, fun h => h, fun h => h, fun h => ?_, fun h => ?_⟩
  · refine ⟨?_, trivial⟩
    simp only [Bool.or_eq_true, decide_eq_true_eq] at h
    refine (pc_nil fun n => ?_).symm
    rcases h with h | h
    · have : P = [] := List.eq_nil_of_length_eq_zero (by omega)
      rw [this]; rfl
    · have : Q = [] := List.eq_nil_of_length_eq_zero (by omega)
      rw [this]; exact mul_nil P n
  · simp only [Bool.or_eq_false_iff, decide_eq_false_iff_not] at h
    obtain ⟨L, hL⟩ : ∃ L, p.length + q.length = L + 1 := ⟨p.length + q.length - 1, by omega⟩
    have eL : (p.length : Int) + (q.length : Int) - 1 = (L : Int) := by omega
    rw [eL, Int.toNat_natCast]
    refine ⟨by rw [inR_i64]; omega, by rw [inR_i64]; omega, ⟨Int.natCast_nonneg _, Int.le_refl _, by show (56 : Int) * (L : Int) ≤ 140737488355328; omega⟩, ?_⟩
    refine hH.loop (fun x : Nat × List fT.den => ⟨[(0, .dat (.slice fT) p), (1, .dat (.slice fT) q), (5, .own 0), (6, .dat (.int .i64) (x.1 : Int))], [(0, .row 29 fT x.2)], 1⟩) (fun x => x.1 ≤ p.length ∧ pf x.2 = tab L (mG P Q x.1 0) ∧ ∀ f ∈ x.2, fs f ≤ qs (fq f)) (fun x => p.length - x.1) (0, List.replicate L f0) 1 ⟨Nat.zero_le _, ?_, ?_⟩ ?_ ?_
    · unfold pf
      rw [List.map_replicate, fq_f0]
      refine co_ext (by rw [List.length_replicate, tab_len]) fun n => ?_
      rw [co_tab, mG_0, List.take_zero]
      have : co (List.replicate L 0) n = 0 := by
        have := co_sh L [] n
        rw [List.append_nil] at this
        rw [this]; split <;> rfl
      rw [this]
      split <;> rfl
    · intro f hf
      rw [List.eq_of_mem_replicate hf]; exact Nat.zero_le _
    · dsimp only [go_sem]
      simp
    · rintro ⟨i, r⟩ ⟨hi, hr, hrs⟩ R hm
      dsimp only at hi hr hrs
      have lr : r.length = L := by rw [← pf_len, hr, tab_len]
      refine hH.run 100 _ _ ?_
      dsimp only [go_sem]
      refine ⟨fun c => ?_, fun c => ?_⟩ <;> simp only [decide_eq_true_eq, decide_eq_false_iff_not] at c
      · have hi' : i < p.length := by omega
        refine hH.loop (fun x : Nat × List fT.den => ⟨[(0, .dat (.slice fT) p), (1, .dat (.slice fT) q), (5, .own 0), (6, .dat (.int .i64) (i : Int)), (7, .dat (.int .i64) (x.1 : Int))], [(0, .row 29 fT x.2)], 1⟩) (fun x => x.1 ≤ q.length ∧ pf x.2 = tab L (mG P Q i x.1) ∧ ∀ f ∈ x.2, fs f ≤ qs (fq f)) (fun x => q.length - x.1) (0, r) 1 ⟨Nat.zero_le _, hr, hrs⟩ ?_ ?_
        · dsimp only [go_sem]
          simp
        · rintro ⟨j, r⟩ ⟨hj, hr, hrs⟩ R2 hm2
          dsimp only at hj hr hrs
          have lr : r.length = L := by rw [← pf_len, hr, tab_len]
          refine hH.run 100 _ _ ?_
          dsimp only [go_sem]
          rw [hz]
          refine ⟨fun c => ?_, fun c => ?_⟩ <;> simp only [decide_eq_true_eq, decide_eq_false_iff_not] at c
          · have hj' : j < q.length := by omega
            have eij : (i : Int) + (j : Int) = ((i + j : Nat) : Int) := by omega
            rw [eij, Int.toNat_natCast, Int.toNat_natCast, Int.toNat_natCast]
            have hk : i + j < r.length := by omega
            have kI : (0 : Int) ≤ ((i + j : Nat) : Int) ∧ ((i + j : Nat) : Int) < (r.length : Int) := by omega
            have iI : inR .i64 ((i + j : Nat) : Int) := by rw [inR_i64]; omega
            have er : fq (r.getD (i + j) f0) = mG P Q i j (i + j) := by
              rw [← co_pf, hr, co_tab, if_pos (by omega)]
            have br : fs (r.getD (i + j) f0) ≤ 1000000 := by
              have h1 := hrs _ (getD_mem hk f0)
              rw [er] at h1
              have h2 := hbd i j (i + j) (by omega)
              omega
            have bx : qs (fq (p.getD i f0) * fq (q.getD j f0)) ≤ 1000000 := by
              rw [cP, cQ]
              have := hxy i j
              omega
            refine ⟨iI, iI, kI, hk, by change (0 : Int) ≤ (i : Int) ∧ (i : Int) < (p.length : Int); omega, by change (0 : Int) ≤ (j : Int) ∧ (j : Int) < (q.length : Int); omega, fp i, fq' j, br, by rw [fs_qf]; exact bx, kI, hk, by rw [inR_i64]; omega, hm2 _ (j + 1, r.set (i + j) (qf (fq (r.getD (i + j) f0) + fq (qf (fq (p.getD i f0) * fq (q.getD j f0)))))) 1 ⟨hj', ?_, fun f hf => ?_⟩ (by dsimp only; omega) ?_⟩
            · rw [pf_set, hr, fq_qf, fq_qf, er, cP, cQ]
              exact tab_set fun n _ => mG_step P Q i j n ▸ (by split <;> rename_i hn <;> first | rw [hn] | rfl)
            · rcases List.mem_or_eq_of_mem_set hf with hf | hf
              · exact hrs f hf
              · rw [hf, fs_qf, fq_qf, fq_qf]; exact Nat.le_refl _
            · dsimp only [go_sem]
              simp
          · have hj' : j = Q.length := by omega
            refine ⟨by rw [inR_i64]; omega, hm _ (i + 1, r) 1 ⟨hi', ?_, hrs⟩ (by dsimp only; omega) ?_⟩
            · rw [hr, hj']
              exact tab_congr fun n _ => mG_row (by omega) n
            · dsimp only [go_sem]
              simp
      · have hi' : i = P.length := by omega
        have hrb : ∀ f ∈ r, fs f ≤ 5000000 := fun f hf => by
          have h1 := hrs f hf
          obtain ⟨n, hn⟩ := List.mem_iff_getElem?.1 hf
          have h2 : fq f = co (pf r) n := by
            rw [co_pf, List.getD_eq_getElem?_getD, hn]; rfl
          have h3 := hbd i 0 n hi
          have h4 : n < L := by
            rw [← lr]; exact (List.getElem?_eq_some_iff.1 hn).1
          rw [h2, hr, co_tab, if_pos h4] at h1
          omega
        have hP0 : P ≠ [] := fun e => by rw [e] at lP; simp at lP; omega
        have hQ0 : Q ≠ [] := fun e => by rw [e] at lQ; simp at lQ; omega
        refine ⟨⟨by omega, hrb⟩, pc_eq.2 ?_, trivial⟩
        have e1 := mul_tab hP0 hQ0
        rw [show P.length + Q.length - 1 = L by omega] at e1
        rw [hr, hi']
        rw [hPd, hQd]
        exact e1
end Go.Proofs.Ytpneaknfnlnbcaa.Gx
