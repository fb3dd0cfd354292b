/-
  The parser of queries: queries of one disjunct.
-/
import Derived.Test.YtfidddcjieoblaaHC
namespace Go.Proofs.Ytfidddcjieoblaa.Gx
open Go Go.RowKit Tw B Nt
set_option linter.unusedVariables false
set_option linter.unusedSimpArgs false
set_option maxHeartbeats 4000000
set_option maxRecDepth 20000
/-- one disjunct -/
def unK (s : PS) : Prop := cqK 50000 (takP s [116, 114, 117, 101]).1 true = true ∧ (takP (cqP' s).1 [111, 114]).2 = false
@[go_sem] noncomputable def EJB : Env := (EJA).addM 51 cqM
theorem EJB_ok : EJB.Ok := (EJA_ok).addM cqM_ok
@[go_sem] def unM : MSpec := ⟨[.b 83 psT], fun d => ⟨[(0, .box 83 (dA psT (cqP' d.1).1 .nil))], 1, (.dat (.slice cqT) [(cqP' d.1).2]), [psP d.1, unK d.1]⟩⟩
theorem unM_ok : MSpecOk Try.prog 47 unM := by
  refine fnM_ok EJB_ok unM Try.func47 rfl (by decide) (N := 15) rfl (res := [.tmp 2]) rfl (by decide) [(1, [(5, .ow)]), (2, [(8, .ow)]), (3, [(11, .ow), (12, .dt)])] [(4, [1])] [] 100 (by kernel_rfl) ?_
  rintro ⟨s, _⟩ hw hp H hH
  dsimp only [go_sem] at hw hp ⊢
  obtain ⟨hp, ⟨hk1, hk2⟩, -⟩ := hp
  have h1 := cqP'_ad hp
  have ht : (takP (cqP' s).1 [111, 114]).1 = (cqP' s).1 := by
    unfold takP at hk2 ⊢
    split at hk2
    · cases hk2
    · rename_i e; rw [if_neg e]
  refine ⟨hp, hk1, ?_⟩
  refine hH.loop (fun _ : Unit => ⟨[(0, .ref 0 0), (3, .own 1)], [(0, .box 83 (dA psT (cqP' s).1 .nil)), (1, .row 26 cqT [(cqP' s).2])], 2⟩) (fun _ => True) (fun _ => 0) () 2 trivial ?_ ?_
  · dsimp only [go_sem]
    and_intros <;> first | trivial | rfl | omega
  · rintro ⟨⟩ - R hm
    refine hH.run 100 _ _ ?_
    dsimp only [go_sem]
    refine ⟨h1.1, fun e => ?_, fun e => ?_⟩
    · rw [hk2] at e; cases e
    · rw [ht]
      and_intros <;> first | trivial | rfl
@[go_sem] noncomputable def EJC : Env := (EJB).addM 47 unM
theorem EJC_ok : EJC.Ok := (EJB_ok).addM unM_ok
def dsK (s : PS) : Prop := (takP s [102, 97, 108, 115, 101]).2 = false ∧ unK s
theorem takP_no {s : PS} {t : Str} (h : (takP s t).2 = false) : (takP s t).1 = s := by
  unfold takP at h ⊢
  split at h
  · cases h
  · rename_i e; rw [if_neg e]
@[go_sem] def dsM : MSpec := ⟨[.b 83 psT], fun d => ⟨[(0, .box 83 (dA psT (cqP' d.1).1 .nil))], 1, (.dat (.slice cqT) [(cqP' d.1).2]), [psP d.1, dsK d.1]⟩⟩
theorem dsM_ok : MSpecOk Try.prog 38 dsM := by
  refine fnM_ok EJC_ok dsM Try.func38 rfl (by decide) (N := 7) rfl (res := [.tmp 2]) rfl (by decide) [(1, [(4, .ow)]), (3, [(6, .ow)])] [] [] 100 (by kernel_rfl) ?_
  rintro ⟨s, _⟩ hw hp H hH
  dsimp only [go_sem] at hw hp ⊢
  obtain ⟨hp, ⟨hk1, hk2⟩, -⟩ := hp
  refine ⟨hp, fun e => ?_, fun e => ?_⟩
  · rw [hk1] at e; cases e
  · rw [takP_no hk1]
    refine ⟨hp, hk2, ?_⟩
    and_intros <;> first | trivial | rfl
def dnP (s : PS) : Bool := !s.2.2 && decide (s.2.1 = (s.1.length : Int))
@[go_sem] def dnM : MSpec := ⟨[.b 83 psT], fun d => ⟨[(0, .box 83 (dA psT d.1 .nil))], 1, (.dat .bool (dnP d.1)), []⟩⟩
theorem dnM_ok : MSpecOk Try.prog 39 dnM := by
  refine fnM_ok EJC_ok dnM Try.func39 rfl (by decide) (N := 20) rfl (res := [.tmp 2]) rfl (by decide) [] [] [] 100 (by kernel_rfl) ?_
  rintro ⟨s, _⟩ hw hp H hH
  dsimp only [go_sem] at hw hp ⊢
  obtain ⟨l, a, b⟩ := s
  simp only [imp_self, true_and, imp2, and_true]
  and_intros <;> first | trivial | rfl
@[go_sem] noncomputable def EJD : Env := ((EJC).addM 38 dsM).addM 39 dnM
theorem EJD_ok : EJD.Ok := ((EJC_ok).addM dsM_ok).addM dnM_ok
/-- the tokens of a text, at the first -/
def ps0 (s : Str) : PS := ((lexP s).1, 0, false)
/-- a query of one disjunct without head -/
def pqK (s : Str) : Prop := lexK s ∧ (s.length ≤ 16384 ∧ ∀ k, k < s.length → chr s k ≠ 10) ∧ (lexP s).2 = true ∧ psP (ps0 s) ∧ peekP (ps0 s) [40] = false ∧ dsK (ps0 s) ∧ dnP (cqP' (ps0 s)).1 = true
@[go_sem] def pqS : Spec := ⟨[.str], fun d => (.tup (.cons (.dat qryT ([], [(cqP' (ps0 d.1)).2])) (.cons (.dat (.int .i64) (0 : Int)) .nil)), [pqK d.1])⟩
theorem pq_ok : SpecOk Try.prog 28 pqS := by
  refine fn_ok EJD_ok pqS Try.func28 rfl (by decide) (N := 51) rfl (res := [.cell 2 31, .tmp 3]) rfl (by decide) [(13, [(37, .ow)]), (16, [(44, .ow)]), (17, [(47, .ow)])] [] [] 100 (by kernel_rfl) ?_
  rintro ⟨s, _⟩ hw hp
  refine ⟨rfl, fun H hH => ?_⟩
  dsimp only [go_sem] at hw hp ⊢
  obtain ⟨⟨hk1, ⟨hk2, hk3⟩, hk4, hk5, hk6, hk7, hk8⟩, -⟩ := hp
  change Str at s
  change s.length ≤ 16384 at hk2
  refine ⟨fun e => ?_, fun _ => ?_⟩
  · have := of_decide_eq_true e
    exact absurd this (by omega)
  refine hH.loop (fun i : Nat => ⟨[(4, .dat (.int .i64) (i : Int)), (3, .dat (.int .i64) (0 : Int)), (2, .ref 0 0), (0, .dat .str s)], [(0, .box 31 (zA qryT .nil))], 1⟩) (fun i => i ≤ s.length) (fun i => s.length - i) 0 1 (Nat.zero_le _) ?_ ?_
  · dsimp only [go_sem]
    and_intros <;> first | trivial | rfl | omega
  · intro i hi R hm
    refine hH.run 200 _ _ ?_
    dsimp only [go_sem]
    have hk2' : lexK s := hk1
    have hps : psP ((lexP s).1, (0 : Int), false) := hk5
    have hpk : peekP ((lexP s).1, (0 : Int), false) [40] = false := hk6
    have hds : dsK ((lexP s).1, (0 : Int), false) := hk7
    have hdn : dnP (cqP' ((lexP s).1, (0 : Int), false)).1 = true := hk8
    simp only [chr_at]
    refine ⟨fun d => ?_, fun d => ?_⟩ <;> simp only [decide_eq_true_eq, decide_eq_false_iff_not] at d
    · have d : i < s.length := by omega
      have h10 := hk3 i d
      have hb : (0 : Int) ≤ (i : Int) ∧ (i : Int) < (s.length : Int) := by omega
      refine ⟨hb, fun e => absurd (of_decide_eq_true e) h10, fun _ => ⟨by rw [inR_i64]; omega, hm _ (i + 1) 1 d (by omega) ?_⟩⟩
      dsimp only [go_sem]
      and_intros <;> first | trivial | rfl | omega
    · refine ⟨hk2', fun e => ?_, fun _ => ⟨hps, fun e => ?_, fun _ => ⟨hps, hds, fun e => ?_, fun _ => ?_⟩⟩⟩
      · rw [hk4] at e; cases e
      · rw [hpk] at e; cases e
      · rw [hdn] at e; cases e
      · exact ⟨trivial, trivial, rfl, trivial, trivial, trivial⟩
/-- the CQ that a text of one disjunct says -/
def cqOf (s : Str) : Cq := (cqP' (ps0 s)).2
@[go_sem] noncomputable def EJE : Env := (EJD).add 28 pqS
theorem EJE_ok : EJE.Ok := (EJD_ok).add pq_ok
@[go_sem] def paS : Spec := ⟨[.str], fun d => (.dat cqT (cqOf d.1), [pqK d.1])⟩
theorem pa_ok : SpecOk Try.prog 17 paS := by
  refine fn_ok EJE_ok paS Try.func17 rfl (by decide) (N := 19) rfl (res := [.cell 2 26]) rfl (by decide) [] [] [] 100 (by kernel_rfl) ?_
  rintro ⟨s, _⟩ hw hp
  refine ⟨rfl, fun H hH => ?_⟩
  dsimp only [go_sem] at hw hp ⊢
  obtain ⟨hp, -⟩ := hp
  have h1 : (0 : Int) ≤ 0 ∧ (0 : Int) < ((1 : Nat) : Int) := by decide
  exact ⟨hp, fun e => absurd (of_decide_eq_true e) (fun h => h rfl), fun _ => ⟨h1, rfl, trivial⟩⟩
end Go.Proofs.Ytfidddcjieoblaa.Gx
