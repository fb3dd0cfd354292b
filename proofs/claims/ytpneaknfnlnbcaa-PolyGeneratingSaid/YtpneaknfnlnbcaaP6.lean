/-
  The law package of the polynomials: same, frac, known.
-/
import Derived.Test.YtpneaknfnlnbcaaP5
import Derived.Test.YtpneaknfnlnbcaaD9
namespace Go.Proofs.Ytpneaknfnlnbcaa.Gx
open Go Go.RowKit Tw B Nt
set_option linter.unusedVariables false
set_option linter.unusedSimpArgs false
set_option maxHeartbeats 4000000
set_option maxRecDepth 20000
/-- equality of polynomials as data -/
def psame (p q : List (Bool × List Int × List Int)) : Bool := decide (p = q)
theorem psame_self (p : List (Bool × List Int × List Int)) : psame p p = true := decide_eq_true rfl
theorem psame_of {p q : List (Bool × List Int × List Int)} (h : p = q) : psame p q = true := decide_eq_true h
@[go_sem] noncomputable def EP8 : Env := ((EP7).add 27 pPowS).add 23 qFmtS
theorem EP8_ok : EP8.Ok := ((EP7_ok).add pPow_ok).add qFmt_ok
@[go_sem] def rPSameS : Spec := ⟨[(.slice fT), (.slice fT)], fun d => (.dat .bool (psame d.1 d.2.1), [])⟩
theorem rPSame_ok : SpecOk Try.prog 46 rPSameS := by
  refine fn_ok EP8_ok rPSameS Try.func46 rfl (by decide) (N := 27) rfl (res := [.tmp 4]) rfl (by decide) [] [] [] 100 (by kernel_rfl) ?_
  rintro ⟨p, q, _⟩ hw hp
  refine ⟨rfl, fun H hH => ?_⟩
  dsimp only [go_sem] at hw hp ⊢
  change List fT.den at p q
  refine ⟨fun h => ?_, fun h => ?_⟩ <;> simp only [decide_eq_true_eq, decide_eq_false_iff_not] at h
  · refine ⟨?_, trivial⟩
    refine (decide_eq_false fun e => h ?_).symm
    exact congrArg (fun l : List fT.den => (l.length : Int)) e
  · have hl : p.length = q.length := by
      have : ¬ ¬ (p.length : Int) = (q.length : Int) := h
      omega
    refine hH.loop (fun i : Nat => ⟨[(0, .dat (.slice fT) p), (1, .dat (.slice fT) q), (5, .dat (.int .i64) (i : Int))], [], 0⟩) (fun i => i ≤ p.length ∧ p.take i = q.take i) (fun i => p.length - i) 0 0 ⟨Nat.zero_le _, rfl⟩ ?_ ?_
    · dsimp only [go_sem]
      simp
    · intro i hi R hm
      obtain ⟨hi, he⟩ : i ≤ p.length ∧ p.take i = q.take i := hi
      refine hH.run 100 _ _ ?_
      dsimp only [go_sem]
      have hz : zd (.pair .bool (.pair (.slice (.int .u32)) (.slice (.int .u32)))) = f0 := rfl
      rw [hz, Int.toNat_natCast]
      refine ⟨fun c => ?_, fun c => ?_⟩ <;> simp only [decide_eq_true_eq, decide_eq_false_iff_not] at c
      · have b1 : (0 : Int) ≤ (i : Int) ∧ (i : Int) < (p.length : Int) := by omega
        have b2 : (0 : Int) ≤ (i : Int) ∧ (i : Int) < (q.length : Int) := by omega
        refine ⟨b1, b2, fun d => ⟨?_, trivial⟩, fun d => ?_⟩
        · refine (decide_eq_false fun e => ?_).symm
          have e : p = q := e
          subst e
          simp at d
        · have e : p.getD i f0 = q.getD i f0 := by
            simp only [Bool.not_eq_false', decide_eq_true_eq] at d
            exact Prod.ext d.1 (Prod.ext d.2.1 d.2.2)
          refine ⟨by rw [inR_i64]; omega, hm _ (i + 1) 0 ⟨by omega, ?_⟩ (by omega) ?_⟩
          · rw [take_get p i f0 (by omega), take_get q i f0 (by omega), he, e]
          · dsimp only [go_sem]
            simp
      · refine ⟨(psame_of ?_).symm, trivial⟩
        have e1 : i = p.length := by omega
        rw [List.take_of_length_le (by omega), List.take_of_length_le (by omega)] at he
        exact he
theorem Fd_qf (q : Rat) : Fd (qf q) := ⟨ds_dg _, ds_dg _⟩
theorem dec49 : IsDec ⟨#[52, 57]⟩ 49 := .inr ⟨by decide, [9, 4], ⟨by unfold D10; decide, by decide⟩, by decide, rfl⟩
theorem dec12 : IsDec ⟨#[49, 50]⟩ 12 := .inr ⟨by decide, [2, 1], ⟨by unfold D10; decide, by decide⟩, by decide, rfl⟩
theorem ft49 : ftT 49 = [52, 57] := by
  unfold ftT
  rw [if_pos (by decide +kernel), if_neg (by decide +kernel)]
  exact decT_of dec49
theorem ft12 : ftT 12 = [49, 50] := by
  unfold ftT
  rw [if_pos (by decide +kernel), if_neg (by decide +kernel)]
  exact decT_of dec12
/-- the sizes of small whole coefficients -/
theorem qs_list {L : QL} (h : ∀ q ∈ L, qs q ≤ 1) : ∀ i, qs (co L i) ≤ 1 := fun i => by
  rcases Nat.lt_or_ge i L.length with k | k
  · rw [co_lt k]; exact h _ (List.getElem_mem _)
  · rw [co_ge k]; exact qs_zero
def kP : List fT.den := [qf (bfr 21), qf (bfr 22), f0]
theorem kP_pf : pf kP = [1, 2, 0] := by
  have e1 : bfr 21 = 1 := by decide +kernel
  have e2 : bfr 22 = 2 := by decide +kernel
  show [fq (qf (bfr 21)), fq (qf (bfr 22)), fq f0] = _
  rw [fq_qf, fq_qf, e1, e2, fq_f0]
theorem qs_small {n : Nat} (h : n < 4294967296) : qs (n : Rat) ≤ 1 := qs_nat h
theorem kP_q : pf (pwQ [1, 2, 0] 2) = [1, 4, 4] := by
  have : pwQ [1, 2, 0] 2 = pc (powQ [1, 2, 0] 2) := by
    unfold pwQ; rw [if_pos (by decide +kernel)]; rfl
  rw [this, pf_pc]
  decide +kernel
@[go_sem] noncomputable def EP9 : Env := (EP8).add 46 rPSameS
theorem EP9_ok : EP9.Ok := (EP8_ok).add rPSame_ok
@[go_sem] def l3sameS : Spec := ⟨[(.slice fT), (.slice fT)], fun d => (.dat .bool (psame d.1 d.2.1), [])⟩
theorem l3same_ok : SpecOk Try.prog 12 l3sameS := by
  refine fn_ok EP9_ok l3sameS Try.func12 rfl (by decide) (N := 8) rfl (res := [.tmp 4]) rfl (by decide) [] [] [] 100 (by kernel_rfl) ?_
  rintro ⟨p, q, _⟩ hw hp
  refine ⟨rfl, fun H hH => ?_⟩
  dsimp only [go_sem] at hw hp ⊢
  exact ⟨rfl, trivial⟩
@[go_sem] def l3fracS : Spec := ⟨[fT, fT], fun d => (.dat .bool (decide (d.1.1 = d.2.1.1 ∧ d.1.2.1 = d.2.1.2.1 ∧ d.1.2.2 = d.2.1.2.2)), [])⟩
theorem l3frac_ok : SpecOk Try.prog 15 l3fracS := by
  refine fn_ok EP9_ok l3fracS Try.func15 rfl (by decide) (N := 8) rfl (res := [.tmp 4]) rfl (by decide) [] [] [] 100 (by kernel_rfl) ?_
  rintro ⟨x, y, _⟩ hw hp
  refine ⟨rfl, fun H hH => ?_⟩
  dsimp only [go_sem] at hw hp ⊢
  exact ⟨rfl, trivial⟩
@[go_sem] def l3knS : Spec := ⟨[], fun d => (.dat .bool true, [])⟩
theorem l3kn_ok : SpecOk Try.prog 19 l3knS := by
  refine fn_ok EP9_ok l3knS Try.func19 rfl (by decide) (N := 39) rfl (res := [.tmp 0]) rfl (by decide) [(1, [(7, .dt)])] [] [] 100 (by kernel_rfl) ?_
  rintro ⟨_⟩ hw hp
  refine ⟨rfl, fun H hH => ?_⟩
  dsimp only [go_sem] at hw hp ⊢
  have hpf : pf [qf (bfr 21), qf (bfr 22), (false, [], [])] = [1, 2, 0] := kP_pf
  have e2 : powE [1, 2, 0] 2 = 0 := by decide +kernel
  have e3 : (pc [1, 2, 0]).length = 2 := by unfold pc; rw [List.length_map]; decide +kernel
  have e4 : (pwQ [1, 2, 0] 2).length = 3 := by rw [← pf_len, kP_q]; rfl
  have e5 : evQ [1, 4, 4] (bfr 23) = 49 := by decide +kernel
  have e6 : qsum (pc (dQ [1, 4, 4])) = 12 := by
    have : tr (dQ [1, 4, 4]) = [4, 8] := by decide +kernel
    unfold pc qsum
    rw [this]
    show 0 + fq (qf 4) + fq (qf 8) = 12
    rw [fq_qf, fq_qf]
    decide +kernel
  have z0 : ∀ m, m ≤ 2 → ∀ i, qs (co (powQ [1, 2, 0] m) i) ≤ 1 := fun m hm => by
    rcases m with _ | _ | _ | m
    · exact qs_list (by decide +kernel)
    · exact qs_list (by decide +kernel)
    · exact qs_list (by decide +kernel)
    · omega
  have z1 : Sz 1900 kP := ⟨by decide, fun f hf => by
    have h1 := qs_le (bfr_b 21)
    have h2 := qs_le (bfr_b 22)
    simp only [kP, List.mem_cons, List.not_mem_nil, or_false] at hf
    rcases hf with rfl | rfl | rfl
    · rw [fs_qf]; omega
    · rw [fs_qf]; omega
    · exact Nat.zero_le _⟩
  have z2 : pwB [qf (bfr 21), qf (bfr 22), (false, [], [])] 2 := ⟨1900, z1, fun m hm i => by rw [hpf]; exact Nat.le_trans (z0 m hm i) (by decide), by decide⟩
  have z3 : Sz 5000000 [qf (bfr 21), qf (bfr 22), (false, [], [])] := z1.le (by decide)
  have eq : pwQ [1, 2, 0] 2 = pc (powQ [1, 2, 0] 2) := by
    unfold pwQ; rw [if_pos (by decide +kernel)]; rfl
  have z4 : Sz 1 (pwQ [1, 2, 0] 2) := by
    rw [eq]
    exact SzQ.pc ⟨by decide +kernel, z0 2 (Nat.le_refl _)⟩
  have z5 : fs (qf (bfr 23)) ≤ 1000 := by
    rw [fs_qf]; exact Nat.le_trans (qs_le (bfr_b 23)) (by decide)
  have z6 : fs (qf 49) ≤ 900000 := by rw [fs_qf]; decide +kernel
  have z7 : fs (qf 12) ≤ 900000 := by rw [fs_qf]; decide +kernel
  have z8 : ∀ f ∈ pwQ [1, 2, 0] 2, fs f ≤ 900 := fun f hf => Nat.le_trans (z4.2 f hf) (by decide)
  have z9 : Sz 1000 (pwQ [1, 2, 0] 2) := z4.le (by decide)
  have z10 : Fd (qf 49) := Fd_qf _
  have z11 : Fd (qf 12) := Fd_qf _
  have z12 : (3 ≤ 500 ∧ ∀ f : fT.den, f ∈ pwQ [1, 2, 0] 2 → fs f ≤ 900) = True := eq_true ⟨by decide, z8⟩
  simp only [hpf, e2, e3, e4, kP_q, fq_qf, e5, e6, ft49, ft12, z2, z3, z5, z6, z7, z9, z10, z11, z12]
  simp
end Go.Proofs.Ytpneaknfnlnbcaa.Gx
