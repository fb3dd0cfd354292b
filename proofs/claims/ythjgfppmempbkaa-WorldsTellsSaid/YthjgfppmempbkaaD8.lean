/-
  Differences, comparison, the canonical form.
-/
import Derived.Test.YthjgfppmempbkaaD7
namespace Go.Proofs.Ythjgfppmempbkaa.Gx
open Go Go.RowKit Tw B Nt
set_option linter.unusedVariables false
set_option linter.unusedSimpArgs false
set_option maxHeartbeats 1000000
@[go_sem] def rFSubS : Spec := ⟨[fT, fT], fun d => (.dat fT (qf (fq d.1 - fq d.2.1)), [fs d.1 ≤ 900000, fs d.2.1 ≤ 900000])⟩
theorem rFSub_ok : SpecOk Try.prog 91 rFSubS := by
  refine fn_ok E4_ok rFSubS Try.func91 rfl (by decide) (N := 9) rfl (res := [.cell 4 53]) rfl (by decide) [] [] [] 100 (by kernel_rfl) ?_
  rintro ⟨x, y, _⟩ hw hp
  refine ⟨rfl, fun H hH => ?_⟩
  dsimp only [go_sem] at hw hp ⊢
  obtain ⟨hx, hy, -⟩ := hw
  obtain ⟨hp1, hp2, -⟩ := hp
  have sy := qs_fq (fd_of hy)
  have l1 := qs_neg (fq y)
  rw [fs_qf, fq_qf, ← Rat.sub_eq_add_neg]
  exact ⟨by omega, by omega, by omega, rfl, trivial⟩
@[go_sem] noncomputable def E5 : Env := ((E4).add 91 rFSubS).add 66 qSumS
theorem E5_ok : E5.Ok := ((E4_ok).add rFSub_ok).add qSum_ok
@[go_sem] def rFComplS : Spec := ⟨[fT], fun d => (.dat fT (qf (1 - fq d.1)), [fs d.1 ≤ 900000])⟩
theorem rFCompl_ok : SpecOk Try.prog 72 rFComplS := by
  refine fn_ok E5_ok rFComplS Try.func72 rfl (by decide) (N := 6) rfl (res := [.cell 2 53]) rfl (by decide) [] [] [] 100 (by kernel_rfl) ?_
  rintro ⟨x, _⟩ hw hp
  refine ⟨rfl, fun H hH => ?_⟩
  dsimp only [go_sem] at hw hp ⊢
  obtain ⟨hp1, -⟩ := hp
  have := qs_one
  rw [show ((1 : Int) : Rat) = 1 from rfl, fs_qf, fq_qf]
  exact ⟨by omega, by omega, rfl, trivial⟩
/-- a fraction in canonical form -/
def isCan (f : fT.den) : Bool := decide (f = qf (fq f))
theorem same_can (f : fT.den) : decide (f.1 = (qf (fq f)).1 ∧ f.2.1 = (qf (fq f)).2.1 ∧ f.2.2 = (qf (fq f)).2.2) = isCan f := by
  unfold isCan
  refine decide_eq_decide.2 ⟨fun ⟨h1, h2, h3⟩ => Prod.ext h1 (Prod.ext h2 h3), fun h => ⟨congrArg (·.1) h, congrArg (·.2.1) h, congrArg (·.2.2) h⟩⟩
theorem last_canon {l : List Int} (h : l.length ≠ 0) (d : Int) : l.getD ((l.length : Int) - 1).toNat d = 0 ↔ l.getLast? = some 0 := by
  have e : ((l.length : Int) - 1).toNat = l.length - 1 := by omega
  rw [e, List.getLast?_eq_getElem?, List.getD_eq_getElem?_getD, List.getElem?_eq_getElem (by omega)]
  simp
theorem one_canon : Canon [1] := ⟨fun d hd => by simp at hd; omega, by simp⟩
theorem dg_one {n : Int} (h0 : 0 ≤ n) : dg n = [1] ↔ n = 1 := by
  constructor
  · intro h
    have := N_dg h0
    rw [h] at this
    rw [← this]; rfl
  · rintro rfl; rfl
theorem can_den {x : fT.den} (h : isCan x = true) : Canon x.2.1 ∧ Canon x.2.2 ∧ x.2.2 ≠ [] := by
  have h := of_decide_eq_true h
  rw [h]
  exact ⟨canon_dg _, canon_dg _, fun e => qf_den (fq x) (by rw [e]; rfl)⟩
theorem can_a {x : fT.den} (d : Int) (h : x.2.2.length = 0 ∨ x.2.2.getD ((x.2.2.length : Int) - 1).toNat d = 0) : isCan x = false := by
  rw [Bool.eq_false_iff]
  intro hc
  obtain ⟨-, h1, h2⟩ := can_den hc
  have h0 : x.2.2.length ≠ 0 := fun e => h2 (List.length_eq_zero_iff.1 e)
  rcases h with h | h
  · exact h0 h
  · exact h1.2 ((last_canon h0 d).1 h)
theorem can_b {x : fT.den} (h : x.2.1.length = 0) : isCan x = (!x.1 && decide (x.2.2 = [1])) := by
  obtain ⟨a, n, d⟩ := x
  obtain rfl : n = [] := List.length_eq_zero_iff.1 h
  have e : fq (a, [], d) = 0 := mk_zero (Or.inl rfl)
  unfold isCan
  rw [e, Bool.eq_iff_iff, show qf 0 = (false, [], [1]) from rfl]
  cases a <;> simp
theorem div_self_one {n g : Int} (hn : 0 < n) (hg : 0 < g) (h : n = n / g) : g = 1 := by
  by_cases h2 : 2 ≤ g
  · have := Int.mul_le_mul_of_nonneg_left h2 (Int.le_of_lt hn)
    have := Int.ediv_lt_of_lt_mul hg (show n < n * g by omega)
    omega
  · omega
theorem can_c {x : fT.den} (hx : Fd x) (d e : Int) (h0 : x.2.1.length ≠ 0) (h1 : x.2.2.length ≠ 0) (h2 : x.2.2.getD ((x.2.2.length : Int) - 1).toNat d ≠ 0) :
    isCan x = (decide (x.2.1.getD ((x.2.1.length : Int) - 1).toNat e ≠ 0) && decide (dg (gcdI (N x.2.1) (N x.2.2)) = [1])) := by
  have cd : Canon x.2.2 := ⟨hx.2, fun q => h2 ((last_canon h1 d).2 q)⟩
  have hd := cd.pos fun q => h1 (by rw [q]; rfl)
  rw [Bool.eq_iff_iff, Bool.and_eq_true, decide_eq_true_eq, decide_eq_true_eq]
  constructor
  · intro hc
    obtain ⟨cn, -, -⟩ := can_den hc
    have hn := cn.pos fun q => h0 (by rw [q]; rfl)
    refine ⟨fun q => cn.2 ((last_canon h0 e).1 q), ?_⟩
    obtain ⟨p1, p2, p3, p4, p5⟩ := mk_parts (neg := x.1) hn hd
    have q := congrArg (fun y => N y.2.2) (of_decide_eq_true hc)
    rw [N_den] at q
    unfold fq at q
    rw [p2] at q
    rw [dg_one (Int.le_of_lt p3)]
    exact div_self_one hd p3 q
  · rintro ⟨k1, k2⟩
    have cn : Canon x.2.1 := ⟨hx.1, fun q => k1 ((last_canon h0 e).2 q)⟩
    have hn := cn.pos fun q => h0 (by rw [q]; rfl)
    obtain ⟨p1, p2, p3, p4, p5⟩ := mk_parts (neg := x.1) hn hd
    rw [dg_one (Int.le_of_lt p3)] at k2
    rw [k2, Int.ediv_one] at p1 p2
    refine decide_eq_true ?_
    obtain ⟨a, n, m⟩ := x
    unfold fq qf
    dsimp only at *
    rw [p1, p2, dg_of cd]
    have e1 : ((sg a (N n)).natAbs : Int) = N n := by unfold sg; split <;> omega
    have e2 : decide (sg a (N n) < 0) = a := by unfold sg; cases a <;> simp <;> omega
    rw [e1, e2, dg_of cn]
end Go.Proofs.Ythjgfppmempbkaa.Gx
