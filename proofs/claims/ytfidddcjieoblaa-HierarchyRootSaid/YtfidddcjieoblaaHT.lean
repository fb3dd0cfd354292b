/-
  A connected hierarchical CQ has a root variable.
-/
import Derived.Test.YtfidddcjieoblaaHS
namespace Go.Proofs.Ytfidddcjieoblaa.Gx
open Go Go.RowKit Tw B Nt
set_option linter.unusedVariables false
set_option linter.unusedSimpArgs false
set_option maxHeartbeats 4000000
set_option maxRecDepth 20000
@[go_sem] def lRoS : Spec := ⟨[.slice (.int .i64)], fun d => (.dat .bool true, [])⟩
theorem lRo_ok : SpecOk Try.prog 5 lRoS := by
  refine fn_ok EJH_ok lRoS Try.func5 rfl (by decide) (N := 69) rfl (res := [.tmp 2]) rfl (by decide) [] [] [] 200 (by kernel_rfl) ?_
  rintro ⟨l, _⟩ hw hp
  refine ⟨rfl, fun H hH => ?_⟩
  dsimp only [go_sem] at hw hp ⊢
  clear hw hp
  change List Int at l
  have hP := bld_P l
  generalize bld l = c at hP ⊢
  obtain ⟨A, cs⟩ := c
  change List Atom at A
  have hQ : cqP (A, []) := ⟨hP.1, hP.2.1, Nat.zero_le _⟩
  have hz := comps_zero (A, [])
  have hro := @root_ex A
  have hbi : (!(viR (A, []) (vio (A, []))).2) = true → ¬ Bad A := (hiB_iff (A, [])).1
  have hvl := Nat.le_trans (vrs_len (trm (A, []))) (trm_len hQ)
  generalize vrs (trm (A, [])) = V at hro hvl ⊢
  generalize (!(viR (A, []) (vio (A, []))).2) = hB at hbi ⊢
  generalize comps (A, []) = P at hz hro ⊢
  simp only [imp_self, imp2, true_and, and_true]
  change List Str at V
  refine ⟨fun _ => hQ, fun _ => hQ, fun e => ⟨fun _ => hQ, ?_⟩, fun e => ⟨hQ, ?_⟩⟩
  · cases A with
    | nil => rw [hz rfl]; rfl
    | cons a A =>
      have : decide (0 < ((List.length (a :: A) : Nat) : Int)) = true := decide_eq_true (by rw [List.length_cons]; omega)
      rw [this]; rfl
  · simp only [Bool.or_eq_false_iff, decide_eq_false_iff_not, Bool.not_eq_false'] at e
    obtain ⟨⟨e1, e2⟩, e3⟩ := e
    have hr := hro (by omega) (by omega) (hbi e3)
    refine hH.loop (fun i : Nat => ⟨[(5, .dat (.int .i64) (i : Int)), (4, .dat (.slice .str) V), (3, .ref 0 0)], [(0, .box 26 (.cons (.dat (.slice atomT) A) (.cons (.val (.slice none 0 0)) .nil)))], 1⟩) (fun i => i ≤ V.length ∧ ∀ j, j < i → (occs A (V.getD j [])).length ≠ A.length) (fun i => V.length - i) 0 1 ⟨Nat.zero_le _, fun j h => absurd h (Nat.not_lt_zero _)⟩ ?_ ?_
    · dsimp only [go_sem]
      and_intros <;> first | trivial | rfl | omega
    · rintro i ⟨hi, hno⟩ R hm
      refine hH.run 200 _ _ ?_
      dsimp only [go_sem]
      simp only [Int.toNat_natCast]
      refine ⟨fun d => ?_, fun d => ?_⟩ <;> simp only [decide_eq_true_eq, decide_eq_false_iff_not] at d
      · have d : i < V.length := by omega
        refine ⟨⟨Int.natCast_nonneg _, Int.ofNat_lt.2 d⟩, hQ, fun _ => ⟨trivial, trivial⟩, fun g => ⟨by rw [inR_i64]; omega, hm _ (i + 1) 1 ⟨d, fun j hj => ?_⟩ (by omega) ?_⟩⟩
        · simp only [decide_eq_false_iff_not] at g
          rcases Nat.lt_or_ge j i with h | h
          · exact hno j h
          · have : j = i := by omega
            subst this
            exact fun e => g (congrArg _ e)
        · dsimp only [go_sem]
          and_intros <;> first | trivial | rfl | omega
      · have d : i = V.length := by omega
        rcases hr with ⟨v, hv, hr⟩ | ⟨h1, h2⟩
        · obtain ⟨j, hj, rfl⟩ := mem_getD [] hv
          exact absurd hr (hno j (by omega))
        · have e4 : decide ((V.length : Int) = 0) = true := by rw [h1]; rfl
          have e5 : decide ((A.length : Int) = 1) = true := by rw [h2]; rfl
          rw [e4, e5]
          and_intros <;> first | trivial | (intro _; rfl) | rfl
end Go.Proofs.Ytfidddcjieoblaa.Gx
