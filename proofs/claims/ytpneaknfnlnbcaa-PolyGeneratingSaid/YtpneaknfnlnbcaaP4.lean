/-
  The program's polynomials: Mul.
-/
import Derived.Test.YtpneaknfnlnbcaaP3
namespace Go.Proofs.Ytpneaknfnlnbcaa.Gx
open Go Go.RowKit Tw B Nt
set_option linter.unusedVariables false
set_option linter.unusedSimpArgs false
set_option maxHeartbeats 4000000
set_option maxRecDepth 20000
/-- a table -/
def tab (L : Nat) (g : Nat → Rat) : QL := (List.range L).map g
theorem tab_len (L : Nat) (g : Nat → Rat) : (tab L g).length = L := by simp [tab]
theorem co_tab (L : Nat) (g : Nat → Rat) (n : Nat) : co (tab L g) n = if n < L then g n else 0 := by
  by_cases h : n < L
  · rw [if_pos h, co_lt (by rw [tab_len]; exact h)]; simp [tab]
  · rw [if_neg h, co_ge (by rw [tab_len]; omega)]
theorem tab_congr {L : Nat} {g h : Nat → Rat} (e : ∀ n, n < L → g n = h n) : tab L g = tab L h := by
  unfold tab
  exact List.map_congr_left fun n hn => e n (List.mem_range.1 hn)
theorem tab_set {L : Nat} {g h : Nat → Rat} {k : Nat} {x : Rat} (e : ∀ n, n < L → h n = if n = k then x else g n) : (tab L g).set k x = tab L h := by
  refine List.ext_getElem (by simp [tab]) fun n h1 h2 => ?_
  have hn : n < L := by simpa [tab] using h2
  rw [List.getElem_set]
  have hr : (tab L h)[n] = h n := by simp [tab]
  rw [hr, e n hn]
  by_cases hk : k = n
  · rw [if_pos hk, if_pos hk.symm]
  · rw [if_neg hk, if_neg (fun h => hk h.symm)]; simp [tab]
/-- a product when i rows are done, and j places of the next one -/
def mG (P Q : QL) (i j n : Nat) : Rat := co (mulQ (P.take i) Q) n + (if i ≤ n ∧ n < i + j then co P i * co Q (n - i) else 0)
theorem mG_0 (P Q : QL) (i n : Nat) : mG P Q i 0 n = co (mulQ (P.take i) Q) n := by
  unfold mG; rw [if_neg (by omega), Rat.add_zero]
theorem take_co {P : QL} {i : Nat} (h : i < P.length) : P.take (i + 1) = P.take i ++ [co P i] := take_get P i 0 h
theorem mul_row {P : QL} {i : Nat} (h : i < P.length) (Q : QL) (n : Nat) : co (mulQ (P.take (i + 1)) Q) n = co (mulQ (P.take i) Q) n + (if i ≤ n then co P i * co Q (n - i) else 0) := by
  rw [take_co h, mul_snoc, List.length_take, Nat.min_eq_left (by omega)]
theorem mG_row {P Q : QL} {i : Nat} (h : i < P.length) (n : Nat) : mG P Q i Q.length n = mG P Q (i + 1) 0 n := by
  rw [mG_0, mul_row h]
  unfold mG
  by_cases h1 : i ≤ n
  · rw [if_pos h1]
    by_cases h2 : n < i + Q.length
    · rw [if_pos ⟨h1, h2⟩]
    · rw [if_neg (by omega), co_ge (p := Q) (by omega), Rat.mul_zero]
  · rw [if_neg h1, if_neg (by omega)]
theorem mG_zero {P Q : QL} {i : Nat} (h : i < P.length) (h0 : co P i = 0) (n : Nat) : mG P Q i 0 n = mG P Q (i + 1) 0 n := by
  rw [mG_0, mG_0, mul_row h, h0, Rat.zero_mul]
  split <;> rw [Rat.add_zero]
theorem mG_step (P Q : QL) (i j n : Nat) : mG P Q i (j + 1) n = if n = i + j then mG P Q i j n + co P i * co Q j else mG P Q i j n := by
  unfold mG
  by_cases h : n = i + j
  · rw [if_pos h, if_pos (by omega), if_neg (by omega), Rat.add_zero, show n - i = j by omega]
  · rw [if_neg h]
    by_cases h2 : i ≤ n ∧ n < i + j
    · rw [if_pos h2, if_pos (by omega)]
    · rw [if_neg h2, if_neg (by omega)]
theorem mul_b {P Q : QL} {A C : Nat} (hP : ∀ i, qs (co P i) ≤ A) (hQ : ∀ i, qs (co Q i) ≤ C) (n : Nat) : ∀ i, i ≤ P.length → qs (co (mulQ (P.take i) Q) n) ≤ 1 + i * (A + C + 1)
  | 0, _ => by rw [List.take_zero]; exact Nat.le_trans qs_zero (by omega)
  | i + 1, h => by
    have ih := mul_b hP hQ n i (by omega)
    rw [mul_row (by omega), Nat.succ_mul]
    split
    · have h1 := qs_add (co (mulQ (P.take i) Q) n) (co P i * co Q (n - i))
      have h2 := qs_mul (co P i) (co Q (n - i))
      have h3 := hP i
      have h4 := hQ (n - i)
      omega
    · rw [Rat.add_zero]; omega
theorem mG_b {P Q : QL} {A C : Nat} (hP : ∀ i, qs (co P i) ≤ A) (hQ : ∀ i, qs (co Q i) ≤ C) (n : Nat) {i : Nat} (hi : i ≤ P.length) (j : Nat) : qs (mG P Q i j n) ≤ 1 + (i + 1) * (A + C + 1) := by
  have ih := mul_b hP hQ n i hi
  unfold mG
  rw [Nat.succ_mul]
  split
  · have h1 := qs_add (co (mulQ (P.take i) Q) n) (co P i * co Q (n - i))
    have h2 := qs_mul (co P i) (co Q (n - i))
    have h3 := hP i
    have h4 := hQ (n - i)
    omega
  · rw [Rat.add_zero]; omega
theorem pf_set (r : List fT.den) (k : Nat) (x : fT.den) : pf (r.set k x) = (pf r).set k (fq x) := by unfold pf; rw [List.map_set]
theorem mul_tab {P Q : QL} (hP : P ≠ []) (hQ : Q ≠ []) : PE (tab (P.length + Q.length - 1) (mG P Q P.length 0)) (mulQ P Q) := fun n => by
  rw [co_tab]
  split
  · rw [mG_0, List.take_of_length_le (Nat.le_refl _)]
  · rw [co_ge (by rw [len_mul P Q hP hQ]; omega)]
def mulB (p q : List fT.den) : Prop := ∃ B C, Sz B p ∧ Sz C q ∧ (p.length + 1) * (B + C + 3) ≤ 4000000 ∧ p.length + q.length ≤ 2000
@[go_sem] noncomputable def EP6 : Env := ((((((EP5).add 16 pEvS).add 24 pTotS).add 25 pMeanS).add 42 pPreS).add 41 pTruS).add 29 pShS
theorem EP6_ok : EP6.Ok := ((((((EP5_ok).add pEv_ok).add pTot_ok).add pMean_ok).add pPre_ok).add pTru_ok).add pSh_ok
@[go_sem] def pMulS : Spec := ⟨[(.slice fT), (.slice fT)], fun d => (.dat (.slice fT) (pc (mulQ (pf d.1) (pf d.2.1))), [mulB d.1 d.2.1])⟩
theorem pMul_ok : SpecOk Try.prog 14 pMulS := by
  refine fn_ok EP6_ok pMulS Try.func14 rfl (by decide) (N := 68) rfl (res := [.tmp 4]) rfl (by decide) [] [(16, [0])] [] 100 (by kernel_rfl) ?_
  rintro ⟨p, q, _⟩ hw hp
  refine ⟨rfl, fun H hH => ?_⟩
  dsimp only [go_sem] at hw hp ⊢
  obtain ⟨⟨B, C, hp1, hp2, hBC, hlen⟩, -⟩ := hp
  have w1 := hw.1.2
  have w2 := hw.2.1.2
  change List fT.den at p q
  have k1 := kt_le p
  have k2 := kt_le q
  have T1 : (List.take (kt p) p).length = kt p := by rw [List.length_take]; omega
  have T2 : (List.take (kt q) q).length = kt q := by rw [List.length_take]; omega
  have hz : zd (.pair .bool (.pair (.slice (.int .u32)) (.slice (.int .u32)))) = f0 := rfl
  have sz1 : Sz 5000000 p := ⟨hp1.1, fun f hf => Nat.le_trans (hp1.2 f hf) (by
    have := Nat.mul_le_mul (show 1 ≤ p.length + 1 by omega) (Nat.le_refl (B + C + 3))
    omega)⟩
  have sz2 : Sz 5000000 q := ⟨hp2.1, fun f hf => Nat.le_trans (hp2.2 f hf) (by
    have := Nat.mul_le_mul (show 1 ≤ p.length + 1 by omega) (Nat.le_refl (B + C + 3))
    omega)⟩
  rw [T1, T2, hz]
  have lP : (tr (pf p)).length = kt p := rfl
  have lQ : (tr (pf q)).length = kt q := rfl
  have cP : ∀ i, fq (p.getD i f0) = co (tr (pf p)) i := fun i => by rw [co_tr, co_pf]
  have cQ : ∀ i, fq (q.getD i f0) = co (tr (pf q)) i := fun i => by rw [co_tr, co_pf]
  have bP : ∀ i, qs (co (tr (pf p)) i) ≤ B + 1 := fun i => by rw [co_tr]; exact qs_at w1 hp1 i
  have bQ : ∀ i, qs (co (tr (pf q)) i) ≤ C + 1 := fun i => by rw [co_tr]; exact qs_at w2 hp2 i
  have gP : ∀ i, i < kt p → (List.take (kt p) p).getD i f0 = p.getD i f0 := fun i hi => by
    rw [List.getD_eq_getElem?_getD, List.getD_eq_getElem?_getD, List.getElem?_take, if_pos hi]
  have gQ : ∀ i, i < kt q → (List.take (kt q) q).getD i f0 = q.getD i f0 := fun i hi => by
    rw [List.getD_eq_getElem?_getD, List.getD_eq_getElem?_getD, List.getElem?_take, if_pos hi]
  have hPE : PE (mulQ (tr (pf p)) (tr (pf q))) (mulQ (pf p) (pf q)) := PE.mul (PE.of_tr _) (PE.of_tr _)
  have fp : ∀ i, fs (p.getD i f0) ≤ 5000000 := sz1.at
  have fq' : ∀ i, fs (q.getD i f0) ≤ 5000000 := sz2.at
  have hbd : ∀ i j n, i ≤ kt p → qs (mG (tr (pf p)) (tr (pf q)) i j n) ≤ 4000001 := fun i j n hi => by
    have h1 := mG_b bP bQ n (show i ≤ (tr (pf p)).length from hi) j
    have h2 := Nat.mul_le_mul (show i + 1 ≤ p.length + 1 by omega) (show B + 1 + (C + 1) + 1 ≤ B + C + 3 by omega)
    omega
  have hxy : ∀ i j, qs (co (tr (pf p)) i * co (tr (pf q)) j) ≤ 4000001 := fun i j => by
    have h1 := qs_mul (co (tr (pf p)) i) (co (tr (pf q)) j)
    have h2 := bP i
    have h3 := bQ j
    have h4 := Nat.mul_le_mul (show 1 ≤ p.length + 1 by omega) (Nat.le_refl (B + C + 3))
    omega
  generalize hPd : tr (pf p) = P at *
  generalize hQd : tr (pf q) = Q at *
  have hle : kt p + kt q ≤ 2000 := by omega
  generalize List.take (kt p) p = p' at *
  generalize List.take (kt q) q = q' at *
  generalize kt p = a at *
  generalize kt q = b at *
  refine ⟨sz1, sz2, fun h => h, fun h => h, fun h => h, fun h => ?_, fun h => ?_⟩
  · refine ⟨?_, trivial⟩
    simp only [Bool.or_eq_true, decide_eq_true_eq] at h
    refine (pc_nil fun n => ?_).symm
    rw [← hPE]
    rcases h with h | h
    · have : P = [] := List.eq_nil_of_length_eq_zero (by omega)
      rw [this]; rfl
    · have : Q = [] := List.eq_nil_of_length_eq_zero (by omega)
      rw [this]; exact mul_nil P n
  · simp only [Bool.or_eq_false_iff, decide_eq_false_iff_not] at h
    obtain ⟨L, hL⟩ : ∃ L, a + b = L + 1 := ⟨a + b - 1, by omega⟩
    have eL : (a : Int) + (b : Int) - 1 = (L : Int) := by omega
    rw [eL, Int.toNat_natCast]
    refine ⟨by rw [inR_i64]; omega, by rw [inR_i64]; omega, ⟨Int.natCast_nonneg _, Int.le_refl _, by show (56 : Int) * (L : Int) ≤ 140737488355328; omega⟩, ?_⟩
    refine hH.loop (fun x : Nat × List fT.den => ⟨[(1, .dat (.slice fT) q'), (5, .own 0), (29, .dat (.slice fT) p'), (30, .dat (.int .i64) (a : Int)), (31, .dat (.int .i64) (x.1 : Int))], [(0, .row 29 fT x.2)], 1⟩) (fun x => x.1 ≤ a ∧ pf x.2 = tab L (mG P Q x.1 0) ∧ ∀ f ∈ x.2, fs f ≤ qs (fq f)) (fun x => a - x.1) (0, List.replicate L f0) 1 ⟨Nat.zero_le _, ?_, ?_⟩ ?_ ?_
    · unfold pf
      rw [List.map_replicate, fq_f0]
      refine co_ext (by rw [List.length_replicate, tab_len]) fun n => ?_
      rw [co_tab, mG_0, List.take_zero]
      have : co (List.replicate L 0) n = 0 := by
        have := co_sh L [] n
        rw [List.append_nil] at this
        rw [this]; split <;> rfl
      rw [this]
      split <;> rfl
    · intro f hf
      rw [List.eq_of_mem_replicate hf]; exact Nat.zero_le _
    · dsimp only [go_sem]
      simp
    · rintro ⟨i, r⟩ ⟨hi, hr, hrs⟩ R hm
      dsimp only at hi hr hrs
      have lr : r.length = L := by rw [← pf_len, hr, tab_len]
      refine hH.run 100 _ _ ?_
      dsimp only [go_sem]
      rw [hz]
      refine ⟨fun c => ?_, fun c => ?_⟩ <;> simp only [decide_eq_true_eq, decide_eq_false_iff_not] at c
      · have hi' : i < a := by omega
        rw [Int.toNat_natCast, gP i hi']
        refine ⟨by change (0 : Int) ≤ (i : Int) ∧ (i : Int) < (p'.length : Int); omega, fp i, fun d => ?_, fun d => ?_⟩ <;> simp only [decide_eq_true_eq, decide_eq_false_iff_not] at d
        · rw [sgQ_eq_zero, cP] at d
          refine ⟨by rw [inR_i64]; omega, hm _ (i + 1, r) 1 ⟨hi', ?_, hrs⟩ (by dsimp only; omega) ?_⟩
          · rw [hr]
            exact tab_congr fun n _ => mG_zero (by omega) d n
          · dsimp only [go_sem]
            simp
        · refine hH.loop (fun x : Nat × List fT.den => ⟨[(1, .dat (.slice fT) q'), (5, .own 0), (6, .dat (.int .i64) (i : Int)), (7, .ref 1 0), (29, .dat (.slice fT) p'), (30, .dat (.int .i64) (a : Int)), (31, .dat (.int .i64) (i : Int)), (39, .dat (.slice fT) q'), (40, .dat (.int .i64) (b : Int)), (41, .dat (.int .i64) (x.1 : Int))], [(0, .row 29 fT x.2), (1, .box 29 (dA fT (p.getD i f0) .nil))], 2⟩) (fun x => x.1 ≤ b ∧ pf x.2 = tab L (mG P Q i x.1) ∧ ∀ f ∈ x.2, fs f ≤ qs (fq f)) (fun x => b - x.1) (0, r) 2 ⟨Nat.zero_le _, hr, hrs⟩ ?_ ?_
          · dsimp only [go_sem]
            simp [T2]
          · rintro ⟨j, r⟩ ⟨hj, hr, hrs⟩ R2 hm2
            dsimp only at hj hr hrs
            have lr : r.length = L := by rw [← pf_len, hr, tab_len]
            refine hH.run 100 _ _ ?_
            dsimp only [go_sem]
            rw [hz]
            refine ⟨fun c => ?_, fun c => ?_⟩ <;> simp only [decide_eq_true_eq, decide_eq_false_iff_not] at c
            · have hj' : j < b := by omega
              have eij : (i : Int) + (j : Int) = ((i + j : Nat) : Int) := by omega
              rw [eij, Int.toNat_natCast, Int.toNat_natCast, gQ j hj']
              have hk : i + j < r.length := by omega
              have kI : (0 : Int) ≤ ((i + j : Nat) : Int) ∧ ((i + j : Nat) : Int) < (r.length : Int) := by omega
              have iI : inR .i64 ((i + j : Nat) : Int) := by rw [inR_i64]; omega
              have er : fq (r.getD (i + j) f0) = mG P Q i j (i + j) := by
                rw [← co_pf, hr, co_tab, if_pos (by omega)]
              have br : fs (r.getD (i + j) f0) ≤ 5000000 := by
                have h1 := hrs _ (getD_mem hk f0)
                rw [er] at h1
                have h2 := hbd i j (i + j) (by omega)
                omega
              have bx : qs (fq (p.getD i f0) * fq (q.getD j f0)) ≤ 5000000 := by
                rw [cP, cQ]
                have := hxy i j
                omega
              refine ⟨by change (0 : Int) ≤ (j : Int) ∧ (j : Int) < (q'.length : Int); omega, fq' j, fun d => ?_, fun d => ?_⟩ <;> simp only [decide_eq_true_eq, decide_eq_false_iff_not] at d
              · refine ⟨iI, iI, kI, hk, fp i, fq' j, br, by rw [fs_qf]; exact bx, kI, hk, by rw [inR_i64]; omega, hm2 _ (j + 1, r.set (i + j) (qf (fq (r.getD (i + j) f0) + fq (qf (fq (p.getD i f0) * fq (q.getD j f0)))))) 2 ⟨hj', ?_, fun f hf => ?_⟩ (by dsimp only; omega) ?_⟩
                · rw [pf_set, hr, fq_qf, fq_qf, er, cP, cQ]
                  exact tab_set fun n _ => mG_step P Q i j n ▸ (by split <;> rename_i hn <;> first | rw [hn] | rfl)
                · rcases List.mem_or_eq_of_mem_set hf with hf | hf
                  · exact hrs f hf
                  · rw [hf, fs_qf, fq_qf, fq_qf]; exact Nat.le_refl _
                · dsimp only [go_sem]
                  simp
              · have d0 : fq (q.getD j f0) = 0 := sgQ_eq_zero.1 (Classical.byContradiction d)
                rw [cQ] at d0
                refine ⟨by rw [inR_i64]; omega, hm2 _ (j + 1, r) 2 ⟨hj', ?_, hrs⟩ (by dsimp only; omega) ?_⟩
                · rw [hr]
                  refine tab_congr fun n _ => ?_
                  rw [mG_step, d0, Rat.mul_zero, Rat.add_zero]
                  split <;> rfl
                · dsimp only [go_sem]
                  simp
            · have hj' : j = Q.length := by omega
              refine ⟨by rw [inR_i64]; omega, hm _ (i + 1, r) 1 ⟨hi', ?_, hrs⟩ (by dsimp only; omega) ?_⟩
              · rw [hr, hj']
                exact tab_congr fun n _ => mG_row (by omega) n
              · dsimp only [go_sem]
                simp
      · have hi' : i = P.length := by omega
        have hrb : ∀ f ∈ r, fs f ≤ 5000000 := fun f hf => by
          have h1 := hrs f hf
          obtain ⟨n, hn⟩ := List.mem_iff_getElem?.1 hf
          have h2 : fq f = co (pf r) n := by
            rw [co_pf, List.getD_eq_getElem?_getD, hn]; rfl
          have h3 := hbd i 0 n hi
          have h4 : n < L := by
            rw [← lr]; exact (List.getElem?_eq_some_iff.1 hn).1
          rw [h2, hr, co_tab, if_pos h4] at h1
          omega
        have hP0 : P ≠ [] := fun e => by rw [e] at lP; simp at lP; omega
        have hQ0 : Q ≠ [] := fun e => by rw [e] at lQ; simp at lQ; omega
        refine ⟨⟨by omega, hrb⟩, pc_eq.2 ?_, trivial⟩
        have e1 := mul_tab hP0 hQ0
        rw [show P.length + Q.length - 1 = L by omega] at e1
        rw [hr, hi']
        exact fun n => (e1 n).trans (hPE n)
end Go.Proofs.Ytpneaknfnlnbcaa.Gx
