/-
  Lists of fractions; the canonical form.
-/
import Derived.Test.YthjgfppmempbkaaD6
namespace Go.Proofs.Ythjgfppmempbkaa.Gx
open Go Go.RowKit Tw B Nt
set_option linter.unusedVariables false
set_option linter.unusedSimpArgs false
set_option maxHeartbeats 1000000
@[go_sem] noncomputable def E4 : Env := (((((E3).add 64 isOneS).add 67 rFIntS).add 92 rFAddS).add 57 rFMulS).add 74 rFSignS
theorem E4_ok : E4.Ok := (((((E3_ok).add isOne_ok).add rFInt_ok).add rFAdd_ok).add rFMul_ok).add rFSign_ok
theorem take_get {α : Type} (l : List α) (k : Nat) (d : α) (h : k < l.length) : l.take (k + 1) = l.take k ++ [l.getD k d] := by
  rw [List.take_add_one, List.getElem?_eq_getElem h, List.getD_eq_getElem?_getD, List.getElem?_eq_getElem h]; rfl
def qsum (l : List fT.den) : Rat := l.foldl (fun a f => a + fq f) 0
def qprod (l : List fT.den) : Rat := l.foldl (fun a f => a * fq f) 1
theorem qsum_snoc (l : List fT.den) (f : fT.den) : qsum (l ++ [f]) = qsum l + fq f := by simp [qsum]
theorem qprod_snoc (l : List fT.den) (f : fT.den) : qprod (l ++ [f]) = qprod l * fq f := by simp [qprod]
theorem qs_bs {l : List fT.den} (hd : ∀ f ∈ l, wfD fT f) (hs : ∀ f ∈ l, fs f ≤ 1000) : ∀ k, k ≤ l.length → qs (qsum (l.take k)) ≤ 1002 * k + 1 ∧ qs (qprod (l.take k)) ≤ 1002 * k + 1
  | 0, _ => ⟨qs_zero, qs_one⟩
  | k + 1, hk => by
    have ih := qs_bs hd hs k (by omega)
    rw [take_get l k (zd fT) (by omega), qsum_snoc, qprod_snoc]
    have hm : l.getD k (zd fT) ∈ l := by
      rw [List.getD_eq_getElem?_getD, List.getElem?_eq_getElem (by omega)]
      exact List.getElem_mem _
    have h1 := qs_fq (fd_of (hd _ hm))
    have h2 := hs _ hm
    have h3 := qs_add (qsum (l.take k)) (fq (l.getD k (zd fT)))
    have h4 := qs_mul (qprod (l.take k)) (fq (l.getD k (zd fT)))
    constructor <;> omega
@[go_sem] def qSumS : Spec := ⟨[.slice fT], fun d => (.dat fT (qf (qsum d.1)), [d.1.length ≤ 500, ∀ f ∈ d.1, fs f ≤ 1000])⟩
theorem qSum_ok : SpecOk Try.prog 66 qSumS := by
  refine fn_ok E4_ok qSumS Try.func66 rfl (by decide) (N := 18) rfl (res := [.cell 2 53]) rfl (by decide) [] [] [] 100 (by kernel_rfl) ?_
  rintro ⟨l, _⟩ hw hp
  refine ⟨rfl, fun H hH => ?_⟩
  dsimp only [go_sem] at hw hp ⊢
  obtain ⟨hl, hs, -⟩ := hp
  have hb := qs_bs hw.1.2 hs
  refine hH.loop (fun k : Nat => ⟨[(2, .ref 0 0), (3, .ref 1 0), (7, .dat (.slice fT) l), (8, .dat (.int .i64) (l.length : Int)), (9, .dat (.int .i64) (k : Int))], [(0, .box 53 (zA fT .nil)), (1, .box 53 (dA fT (qf (qsum (l.take k))) .nil))], 2⟩) (fun k => k ≤ l.length) (fun k => l.length - k) 0 2 (Nat.zero_le _) ?_ ?_
  · dsimp only [go_sem]
    simp [qsum]
  · intro k hk R hm
    have hb := (hb k hk).1
    refine hH.run 100 _ _ ?_
    dsimp only [go_sem]
    refine ⟨fun h => ?_, fun h => ?_⟩ <;> simp only [decide_eq_true_eq, decide_eq_false_iff_not] at h
    · have hk' : k < l.length := by omega
      have hs := hs (l.getD k (zd fT)) (by rw [List.getD_eq_getElem?_getD, List.getElem?_eq_getElem hk']; exact List.getElem_mem _)
      have e := qsum_snoc (l.take k) (l.getD k (zd fT))
      rw [← take_get l k (zd fT) hk'] at e
      rw [Int.toNat_natCast]
      rw [fq_qf]
      change List.length l ≤ 500 at hl
      rw [← fs_qf] at hb
      refine ⟨⟨Int.natCast_nonneg k, Int.ofNat_lt.2 hk'⟩, Nat.le_trans hb (by omega), Nat.le_trans hs (by decide), by rw [inR_i64]; omega, ?_⟩
      refine hm _ (k + 1) 2 hk' (by omega) ?_
      dsimp only [go_sem]
      rw [e]
      simp
      trace_state
    · rw [show l.take k = l from List.take_of_length_le (by omega)]
      exact ⟨rfl, trivial⟩
@[go_sem] def rFSumS : Spec := ⟨[.slice fT], fun d => (.dat fT (qf (qsum d.1)), [d.1.length ≤ 500, ∀ f ∈ d.1, fs f ≤ 1000])⟩
theorem rFSum_ok : SpecOk Try.prog 73 rFSumS := by
  refine fn_ok E4_ok rFSumS Try.func73 rfl (by decide) (N := 19) rfl (res := [.cell 2 53]) rfl (by decide) [] [] [] 100 (by kernel_rfl) ?_
  rintro ⟨l, _⟩ hw hp
  refine ⟨rfl, fun H hH => ?_⟩
  dsimp only [go_sem] at hw hp ⊢
  obtain ⟨hl, hs, -⟩ := hp
  have hb := qs_bs hw.1.2 hs
  refine hH.loop (fun k : Nat => ⟨[(0, .dat (.slice fT) l), (2, .ref 0 0), (3, .ref 1 0), (4, .dat (.int .i64) (k : Int))], [(0, .box 53 (zA fT .nil)), (1, .box 53 (dA fT (qf (qsum (l.take k))) .nil))], 2⟩) (fun k => k ≤ l.length) (fun k => l.length - k) 0 2 (Nat.zero_le _) ?_ ?_
  · dsimp only [go_sem]
    simp [qsum]
  · intro k hk R hm
    have hb := (hb k hk).1
    refine hH.run 100 _ _ ?_
    dsimp only [go_sem]
    refine ⟨fun h => ?_, fun h => ?_⟩ <;> simp only [decide_eq_true_eq, decide_eq_false_iff_not] at h
    · have hk' : k < l.length := by omega
      have hs := hs (l.getD k (zd fT)) (by rw [List.getD_eq_getElem?_getD, List.getElem?_eq_getElem hk']; exact List.getElem_mem _)
      have e := qsum_snoc (l.take k) (l.getD k (zd fT))
      rw [← take_get l k (zd fT) hk'] at e
      rw [Int.toNat_natCast]
      rw [fq_qf]
      change List.length l ≤ 500 at hl
      rw [← fs_qf] at hb
      refine ⟨⟨Int.natCast_nonneg k, Int.ofNat_lt.2 hk'⟩, Nat.le_trans hb (by omega), Nat.le_trans hs (by decide), by rw [inR_i64]; omega, ?_⟩
      refine hm _ (k + 1) 2 hk' (by omega) ?_
      dsimp only [go_sem]
      rw [e]
      simp
      trace_state
    · rw [show l.take k = l from List.take_of_length_le (by omega)]
      exact ⟨rfl, trivial⟩
end Go.Proofs.Ythjgfppmempbkaa.Gx
