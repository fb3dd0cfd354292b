/-
  The laws of the polynomials: PolyArith.
-/
import Derived.Test.YtpneaknfnlnbcaaPD
namespace Go.Proofs.Ytpneaknfnlnbcaa.Gx
open Go Go.RowKit Tw B Nt
set_option linter.unusedVariables false
set_option linter.unusedSimpArgs false
set_option maxHeartbeats 4000000
set_option maxRecDepth 20000
@[go_sem] noncomputable def EPL : Env := (EPK).add 40 rPMeanS
theorem EPL_ok : EPL.Ok := (EPK_ok).add rPMean_ok
@[go_sem] def lArS : Spec := ⟨[.slice (.int .i64), .slice (.int .i64), .int .i64], fun d => (.dat .bool true, [])⟩
theorem lAr_ok : SpecOk Try.prog 8 lArS := by
  refine fn_ok EPL_ok lArS Try.func8 rfl (by decide) (N := 81) rfl (res := [.tmp 6]) rfl (by decide) [] [] [] 100 (by kernel_rfl) ?_
  rintro ⟨(x:List Int), (y:List Int), (n:Int), _⟩ hw hp
  refine ⟨rfl, fun H hH => ?_⟩
  dsimp only [go_sem] at hw hp ⊢
  have lx := (ofP_len x).1
  have ly := (ofP_len y).1
  have sx := ofP_sz x
  have sy := ofP_sz y
  have qx := ofP_szq x
  have qy := ofP_szq y
  have a1 := qs_le (bfr_b n)
  have a2 : fs (qf (bfr n)) ≤ 1000 := by rw [fs_qf]; omega
  have a3 : fs (qf (bfr n)) ≤ 2000000 := by rw [fs_qf]; omega
  have a4 : fs (qf (bfr n)) ≤ 100 := by rw [fs_qf]; omega
  have pa : pf [qf (bfr n)] = [bfr n] := by show [fq (qf (bfr n))] = _; rw [fq_qf]
  have sa : Sz 1 [qf (bfr n)] := ⟨by simp, fun f hf => by rw [List.mem_singleton.1 hf, fs_qf]; exact a1⟩
  have rS : ∀ {p q : List fT.den} {B C : Nat}, Sz B p → Sz C q → p.length ≤ 39 → q.length ≤ 500 → B ≤ 10000 → C ≤ 10000 → rmB p q := fun {p q B C} h1 h2 hp hq hB hC =>
    ⟨B, C, h1, h2, Nat.le_trans (Nat.mul_le_mul (show p.length + 1 ≤ 40 by omega) (show B + C + 3 ≤ 20003 by omega)) (by decide), by omega⟩
  have r1 : rmB (ofP x) (ofP y) := rS sx sy (by omega) (by omega) (by decide) (by decide)
  have r2 : rmB (ofP x) [qf (bfr n)] := rS sx sa (by omega) (by simp) (by decide) (by decide)
  have r3 : mulB (ofP x) (ofP y) := mulB_small sx sy (by omega) (by omega) (by decide) (by decide)
  have c1 : Sz 5000000 (ofP x) := sx.le (by decide)
  have c2 : Sz 2000000 (ofP x) := sx.le (by decide)
  have c3 : Sz 2000000 (ofP y) := sy.le (by decide)
  have c4 : Sz 300000 (ofP x) := sx.le (by decide)
  have c5 : Sz 300000 (ofP y) := sy.le (by decide)
  have c6 : Sz 1000 (ofP x) := sx.le (by decide)
  have c7 : Sz 100 (ofP x) := sx.le (by decide)
  have c8 : Sz 90 (ofP x) := sx.le (by decide)
  have c9 : ((ofP x).length ≤ 500 ∧ ∀ f : fT.den, f ∈ ofP x → fs f ≤ 1000) = True := eq_true ⟨by omega, fun f hf => Nat.le_trans (sx.2 f hf) (by decide)⟩
  have ca : ((ofP x).length ≤ 500 ∧ ∀ f : fT.den, f ∈ ofP x → fs f ≤ 900) = True := eq_true ⟨by omega, fun f hf => Nat.le_trans (sx.2 f hf) (by decide)⟩
  have s1 : psame (pc (scQ (bfr n) (pf (ofP x)))) (pc (mulQ (pf (ofP x)) [bfr n])) = true := psame_of (pc_eq.2 (mul_c_one (bfr n) (pf (ofP x))).symm)
  simp only [pa, fq_qf, ev_one, a2, a3, a4, r1, r2, r3, c1, c2, c3, c4, c5, c6, c7, c8, c9, ca, psame_self, s1]
  simp
end Go.Proofs.Ytpneaknfnlnbcaa.Gx
