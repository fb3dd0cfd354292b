/-
  The reference's polynomials: PolyEval, PolyTotal, PolyTruncate, PolyPrefix.
-/
import Derived.Test.YtpneaknfnlnbcaaP8
namespace Go.Proofs.Ytpneaknfnlnbcaa.Gx
open Go Go.RowKit Tw B Nt
set_option linter.unusedVariables false
set_option linter.unusedSimpArgs false
set_option maxHeartbeats 4000000
set_option maxRecDepth 20000
@[go_sem] noncomputable def EPC : Env := (EPA).add 33 rPNormS
theorem EPC_ok : EPC.Ok := (EPA_ok).add rPNorm_ok
@[go_sem] def rPEvS : Spec := ⟨[(.slice fT), fT], fun d => (.dat fT (qf (evQ (pf d.1) (fq d.2.1))), [Sz 100 d.1, fs d.2.1 ≤ 100])⟩
theorem rPEv_ok : SpecOk Try.prog 38 rPEvS := by
  refine fn_ok EPC_ok rPEvS Try.func38 rfl (by decide) (N := 24) rfl (res := [.cell 4 29]) rfl (by decide) [] [] [] 100 (by kernel_rfl) ?_
  rintro ⟨p, x, _⟩ hw hp
  refine ⟨rfl, fun H hH => ?_⟩
  dsimp only [go_sem] at hw hp ⊢
  obtain ⟨hp1, hp2, -⟩ := hp
  have hl1 := hp1.1
  have sx := qs_fq (fd_of hw.2.1)
  have hb := ev_b hw.1.2 hp1 (fq x)
  change List fT.den at p
  have hz : zd (.pair .bool (.pair (.slice (.int .u32)) (.slice (.int .u32)))) = f0 := rfl
  refine ⟨by rw [inR_i64]; change -9223372036854775808 ≤ (p.length : Int) - 1 ∧ (p.length : Int) - 1 ≤ 9223372036854775807; omega, ?_⟩
  refine hH.loop (fun k : Nat => ⟨[(0, .dat (.slice fT) p), (3, .ref 0 0), (4, .ref 1 0), (5, .ref 2 0), (6, .dat (.int .i64) ((k : Int) - 1))], [(0, .box 29 (dA fT x .nil)), (1, .box 29 (zA fT .nil)), (2, .box 29 (dA fT (qf (evQ (pf (p.drop k)) (fq x))) .nil))], 3⟩) (fun k => k ≤ p.length) (fun k => k) p.length 3 (Nat.le_refl _) ?_ ?_
  · dsimp only [go_sem]
    rw [List.drop_of_length_le (Nat.le_refl _)]
    simp [pf, evQ]
  · intro k hk R hm
    have hk : k ≤ p.length := hk
    refine hH.run 100 _ _ ?_
    dsimp only [go_sem]
    rw [hz]
    have hbk : qs (evQ (pf (List.drop k p)) (fq x)) ≤ 408001 := by
      have h1 := hb k (p.length - k) (by omega)
      have h2 := Nat.mul_le_mul (show p.length - k ≤ 2000 by omega) (show qs (fq x) + 100 + 3 ≤ 204 by omega)
      omega
    have hmx := qs_mul (evQ (pf (List.drop k p)) (fq x)) (fq x)
    simp only [fq_qf]
    refine ⟨fun h => ?_, fun h => ?_⟩ <;> simp only [decide_eq_true_eq, decide_eq_false_iff_not] at h
    · obtain ⟨j, rfl⟩ : ∃ j, k = j + 1 := ⟨k - 1, by omega⟩
      have e1 : ((j + 1 : Nat) : Int) - 1 = (j : Int) := by omega
      rw [e1, Int.toNat_natCast]
      refine ⟨by rw [fs_qf]; omega, Nat.le_trans hp2 (by decide), by change (0 : Int) ≤ (j : Int) ∧ (j : Int) < (p.length : Int); omega, by rw [fs_qf]; omega, Nat.le_trans (hp1.at j) (by decide), by rw [inR_i64]; omega, hm _ j 3 (by omega) (by omega) ?_⟩
      dsimp only [go_sem]
      rw [← ev_drop p (fq x) j (by omega)]
      simp
    · have : k = 0 := by omega
      subst this
      exact ⟨rfl, trivial⟩
@[go_sem] noncomputable def EPD : Env := (EPC).add 38 rPEvS
theorem EPD_ok : EPD.Ok := (EPC_ok).add rPEv_ok
theorem ev_one (l : List fT.den) : evQ (pf l) 1 = qsum l := by
  have key : ∀ (l : List fT.den) (c : Rat), l.foldl (fun a f => a + fq f) c = c + evQ (pf l) 1 := by
    intro l
    induction l with
    | nil => intro c; show c = c + 0; rw [Rat.add_zero]
    | cons f l ih =>
      intro c
      show l.foldl (fun a f => a + fq f) (c + fq f) = c + (evQ (pf l) 1 * 1 + fq f)
      rw [ih, Rat.mul_one, Rat.add_assoc, Rat.add_comm (fq f)]
  unfold qsum
  rw [key, Rat.zero_add]
@[go_sem] def rPTotS : Spec := ⟨[(.slice fT)], fun d => (.dat fT (qf (evQ (pf d.1) 1)), [Sz 100 d.1])⟩
theorem rPTot_ok : SpecOk Try.prog 39 rPTotS := by
  refine fn_ok EPD_ok rPTotS Try.func39 rfl (by decide) (N := 6) rfl (res := [.cell 2 29]) rfl (by decide) [] [] [] 100 (by kernel_rfl) ?_
  rintro ⟨p, _⟩ hw hp
  refine ⟨rfl, fun H hH => ?_⟩
  dsimp only [go_sem] at hw hp ⊢
  obtain ⟨hp1, -⟩ := hp
  have e1 : ((1 : Int) : Rat) = 1 := rfl
  simp only [fq_qf]
  have z : fs (qf ((1 : Int) : Rat)) ≤ 100 := by
    rw [fs_qf]
    exact Nat.le_trans qs_one (by decide)
  exact ⟨hp1, z, rfl, trivial⟩
@[go_sem] noncomputable def EPE : Env := (EPD).add 39 rPTotS
theorem EPE_ok : EPE.Ok := (EPD_ok).add rPTot_ok
@[go_sem] def rPTruS : Spec := ⟨[(.slice fT), .int .i64], fun d => (.dat (.slice fT) (pc (pf (d.1.take d.2.1.toNat))), [Sz 5000000 d.1])⟩
theorem rPTru_ok : SpecOk Try.prog 44 rPTruS := by
  refine fn_ok EPE_ok rPTruS Try.func44 rfl (by decide) (N := 15) rfl (res := [.tmp 4]) rfl (by decide) [] [] [] 100 (by kernel_rfl) ?_
  rintro ⟨p, (n:Int), _⟩ hw hp
  refine ⟨rfl, fun H hH => ?_⟩
  dsimp only [go_sem] at hw hp ⊢
  obtain ⟨hp1, -⟩ := hp
  change List fT.den at p
  refine ⟨fun h => ?_, fun h => ?_⟩ <;> simp only [decide_eq_true_eq, decide_eq_false_iff_not] at h
  · have h : n < (p.length : Int) := h
    have e : Int.toNat (if 0 > n then 0 else n) = n.toNat := by
      by_cases g : 0 > n
      · rw [if_pos g]; omega
      · rw [if_neg g]
    rw [e]
    refine ⟨?_, hp1.take _, rfl, trivial⟩
    change (0 : Int) ≤ (if 0 > n then 0 else n) ∧ (if 0 > n then 0 else n) ≤ (p.length : Int)
    by_cases g : 0 > n
    · rw [if_pos g]; omega
    · rw [if_neg g]; omega
  · have h : ¬ n < (p.length : Int) := h
    rw [List.take_of_length_le (by omega)]
    exact ⟨hp1, rfl, trivial⟩
@[go_sem] noncomputable def EPF : Env := (EPE).add 44 rPTruS
theorem EPF_ok : EPF.Ok := (EPE_ok).add rPTru_ok
@[go_sem] def rPPreS : Spec := ⟨[(.slice fT), .int .i64], fun d => (.dat fT (qf (qsum (d.1.take d.2.1.toNat))), [Sz 90 d.1])⟩
theorem rPPre_ok : SpecOk Try.prog 43 rPPreS := by
  refine fn_ok EPF_ok rPPreS Try.func43 rfl (by decide) (N := 9) rfl (res := [.cell 4 29]) rfl (by decide) [] [] [] 100 (by kernel_rfl) ?_
  rintro ⟨p, (n:Int), _⟩ hw hp
  refine ⟨rfl, fun H hH => ?_⟩
  dsimp only [go_sem] at hw hp ⊢
  obtain ⟨hp1, -⟩ := hp
  have hW : Wp (List.take n.toNat p) := fun f hf => hw.1.2 f (List.mem_of_mem_take hf)
  have h1 := ((SzQ.of hW (hp1.take _)).pc).le (show 90 + 1 ≤ 100 by omega)
  refine ⟨hp1.le (by omega), h1, ?_, trivial⟩
  rw [ev_pc, ev_one]
end Go.Proofs.Ytpneaknfnlnbcaa.Gx
