/-
  Queries: terms, variables.
-/
import Derived.Test.YtfidddcjieoblaaH1
namespace Go.Proofs.Ytfidddcjieoblaa.Gx
open Go Go.RowKit Tw B Nt
set_option linter.unusedVariables false
set_option linter.unusedSimpArgs false
set_option maxHeartbeats 4000000
set_option maxRecDepth 20000
theorem take_snoc {α : Type} {l : List α} {i : Nat} (d : α) (h : i < l.length) : l.take (i + 1) = l.take i ++ [l.getD i d] := by
  rw [List.take_add_one, List.getD_eq_getElem?_getD, List.getElem?_eq_getElem h]
  rfl
def atT (a : Atom) : List Term := a.2.2
def cpT (k : Cmp) : List Term := [k.2.1, k.2.2]
theorem fm_snoc {α β : Type} (f : α → List β) {l : List α} {i : Nat} (d : α) (h : i < l.length) : (l.take (i + 1)).flatMap f = (l.take i).flatMap f ++ f (l.getD i d) := by
  rw [take_snoc d h, List.flatMap_append, List.flatMap_singleton]
theorem fm_len {α β : Type} (f : α → List β) (b : Nat) {l : List α} (h : ∀ x ∈ l, (f x).length ≤ b) : (l.flatMap f).length ≤ l.length * b := by
  induction l with
  | nil => simp
  | cons x l ih =>
    rw [List.flatMap_cons, List.length_append, List.length_cons, Nat.succ_mul]
    have := ih fun y hy => h y (List.mem_cons_of_mem _ hy)
    have := h x (List.mem_cons_self ..)
    omega
/-- the terms of a CQ, those of the atoms first -/
def trm (c : Cq) : List Term := c.1.flatMap atT ++ c.2.flatMap cpT
theorem trm_len {c : Cq} (h : cqP c) : (trm c).length ≤ 1002000 := by
  obtain ⟨h1, h2, h3⟩ := h
  have a := fm_len atT 1000 h2
  have b := fm_len cpT 2 (l := c.2) fun _ _ => Nat.le_refl _
  unfold trm
  rw [List.length_append]
  have : c.1.length * 1000 ≤ 1000 * 1000 := Nat.mul_le_mul_right _ h1
  omega
@[go_sem] def trmS : Spec := ⟨[cqT], fun d => (.dat (.slice termT) (trm d.1), [cqP d.1])⟩
theorem trm_ok : SpecOk Try.prog 23 trmS := by
  refine fn_ok EH5_ok trmS Try.func23 rfl (by decide) (N := 36) rfl (res := [.tmp 2]) rfl (by decide) [(10, [(32, .dt)])] [(12, [0])] [] 100 (by kernel_rfl) ?_
  rintro ⟨c, _⟩ hw hp
  refine ⟨rfl, fun H hH => ?_⟩
  dsimp only [go_sem] at hw hp ⊢
  obtain ⟨hp, -⟩ := hp
  obtain ⟨l, cs⟩ := c
  change List Atom at l
  change List Cmp at cs
  have hp0 := hp
  obtain ⟨hp1, hp2, hp3⟩ := hp
  change List.length l ≤ 1000 at hp1
  change ∀ a ∈ l, a.2.2.length ≤ 1000 at hp2
  change List.length cs ≤ 1000 at hp3
  have ft : (l.take l.length).flatMap atT = l.flatMap atT := by rw [List.take_length]
  have ln : ∀ i, i ≤ l.length → ((l.take i).flatMap atT).length ≤ 1000000 := fun i hi => by
    have := fm_len atT 1000 (l := l.take i) fun x hx => hp2 x (List.mem_of_mem_take hx)
    rw [List.length_take] at this
    have : min i l.length * 1000 ≤ 1000 * 1000 := Nat.mul_le_mul_right _ (by omega)
    omega
  refine hH.loop (fun i : Nat => ⟨[(11, .dat (.int .i64) (i : Int)), (10, .dat (.int .i64) (List.length l : Int)), (9, .dat (.slice atomT) l), (1, .ref 0 0), (3, .own 1)], [(0, .box 26 (.cons (.dat (.slice atomT) l) (.cons (.dat (.slice cmpT) cs) .nil))), (1, .row 45 termT ((l.take i).flatMap atT))], 2⟩) (fun i => i ≤ l.length) (fun i => l.length - i) 0 1 (Nat.zero_le _) ?_ ?_
  · dsimp only [go_sem]
    simp
  · intro i hi R hm
    refine hH.run 100 _ _ ?_
    dsimp only [go_sem]
    rw [Int.toNat_natCast]
    refine ⟨fun d => ?_, fun d => ?_⟩ <;> simp only [decide_eq_true_eq, decide_eq_false_iff_not] at d
    · have d : i < l.length := by omega
      have hs := fm_snoc atT ([], false, []) d
      have hl := ln _ hi
      have ha := hp2 _ (getDm ([], false, []) d)
      refine ⟨⟨Int.natCast_nonneg _, Int.ofNat_lt.2 d⟩, ?_, rfl, by rw [inR_i64]; omega, hm _ (i + 1) 2 d (by omega) ?_⟩
      · change (((l.take i).flatMap atT).length + (l.getD i ([], false, [])).2.2.length) * 48 ≤ _
        have h2 := ln _ d
        rw [hs, List.length_append] at h2
        change ((l.take i).flatMap atT).length + (l.getD i ([], false, [])).2.2.length ≤ _ at h2
        omega
      · dsimp only [go_sem]
        simp only [hs]
        and_intros <;> first | trivial | rfl | omega
    · have d : i = l.length := by omega
      subst d
      rw [ft]
      have hl := ln _ (Nat.le_refl _)
      rw [ft] at hl
      clear hm
      refine HOk.loop (by assumption) (fun k : Nat => ⟨[(23, .dat (.int .i64) (k : Int)), (22, .dat (.int .i64) (List.length cs : Int)), (21, .dat (.slice cmpT) cs), (3, .own 1)], [(1, .row 45 termT (l.flatMap atT ++ (cs.take k).flatMap cpT))], 2⟩) (fun k => k ≤ cs.length) (fun k => cs.length - k) 0 2 (Nat.zero_le _) ?_ ?_
      · dsimp only [go_sem]
        simp
      · intro k hk R2 hm
        refine hH.run 100 _ _ ?_
        dsimp only [go_sem]
        rw [Int.toNat_natCast]
        refine ⟨fun d => ?_, fun d => ?_⟩ <;> simp only [decide_eq_true_eq, decide_eq_false_iff_not] at d
        · have d : k < cs.length := by omega
          have hs := fm_snoc cpT (0, ([], 0, 0, []), [], 0, 0, []) d
          have hl2 := fm_len cpT 2 (l := cs.take k) fun _ _ => Nat.le_refl _
          rw [List.length_take] at hl2
          refine ⟨⟨Int.natCast_nonneg _, Int.ofNat_lt.2 d⟩, ?_, rfl, by rw [inR_i64]; omega, hm _ (k + 1) 2 d (by omega) ?_⟩
          · change ((l.flatMap atT ++ (cs.take k).flatMap cpT).length + 2) * 48 ≤ _
            rw [List.length_append]
            have : min k cs.length ≤ 1000 := by omega
            omega
          · dsimp only [go_sem]
            simp only [hs, ← List.append_assoc]
            and_intros <;> first | trivial | rfl | omega
        · have d : k = cs.length := by omega
          subst d
          rw [List.take_length]
          exact ⟨rfl, trivial⟩
/-- the names, each at its first occurrence -/
def vstep (n : List Str) (t : Term) : List Str := if t.1 ≠ [] ∧ ¬ t.1 ∈ n then n ++ [t.1] else n
def vrs (l : List Term) : List Str := l.foldl vstep []
theorem vrs_len (l : List Term) : (vrs l).length ≤ l.length := by
  suffices h : ∀ (l : List Term) (n : List Str), (l.foldl vstep n).length ≤ n.length + l.length from by
    have := h l []
    rw [List.length_nil, Nat.zero_add] at this
    exact this
  intro l
  induction l with
  | nil => intro n; exact Nat.le_refl _
  | cons t l ih =>
    intro n
    rw [List.foldl_cons, List.length_cons]
    have := ih (vstep n t)
    have h2 : (vstep n t).length ≤ n.length + 1 := by
      unfold vstep
      split
      · rw [List.length_append, List.length_singleton]; exact Nat.le_refl _
      · omega
    omega
theorem vrs_snoc {l : List Term} {i : Nat} (d : Term) (h : i < l.length) : vrs (l.take (i + 1)) = vstep (vrs (l.take i)) (l.getD i d) := by
  unfold vrs
  rw [take_snoc d h, List.foldl_append]
  rfl
@[go_sem] noncomputable def EH6 : Env := (EH5).add 23 trmS
theorem EH6_ok : EH6.Ok := (EH5_ok).add trm_ok
@[go_sem] def varS : Spec := ⟨[cqT], fun d => (.dat (.slice .str) (vrs (trm d.1)), [cqP d.1])⟩
theorem var_ok : SpecOk Try.prog 12 varS := by
  refine fn_ok EH6_ok varS Try.func12 rfl (by decide) (N := 30) rfl (res := [.tmp 2]) rfl (by decide) [(6, [(26, .dt)])] [(8, [0])] [] 100 (by kernel_rfl) ?_
  rintro ⟨c, _⟩ hw hp
  refine ⟨rfl, fun H hH => ?_⟩
  dsimp only [go_sem] at hw hp ⊢
  obtain ⟨hp, -⟩ := hp
  refine ⟨hp, ?_⟩
  have hln := trm_len hp
  generalize e : trm c = l at hln ⊢
  change List Term at l
  clear hw
  refine hH.loop (fun i : Nat => ⟨[(9, .dat (.int .i64) (i : Int)), (8, .dat (.int .i64) (List.length l : Int)), (7, .dat (.slice termT) l), (3, .own 1)], [(1, .row 9 .str (vrs (l.take i)))], 2⟩) (fun i => i ≤ l.length) (fun i => l.length - i) 0 1 (Nat.zero_le _) ?_ ?_
  · dsimp only [go_sem]
    simp [vrs]
  · intro i hi R hm
    refine hH.run 100 _ _ ?_
    dsimp only [go_sem]
    rw [Int.toNat_natCast]
    refine ⟨fun d => ?_, fun d => ?_⟩ <;> simp only [decide_eq_true_eq, decide_eq_false_iff_not] at d
    · have d : i < l.length := by omega
      have hs := vrs_snoc (zd termT) d
      have hl2 : (vrs (l.take i)).length ≤ 1002000 := by
        have := vrs_len (l.take i)
        rw [List.length_take] at this
        omega
      refine ⟨⟨Int.natCast_nonneg _, Int.ofNat_lt.2 d⟩, fun h => h, fun h => h, fun h => h, fun _ => by omega, fun h => h, ?_⟩
      generalize l.getD i (zd termT) = t at hs ⊢
      change Term at t
      refine ⟨fun h => h, fun h => ?_, fun h => ?_⟩
      · simp only [Bool.and_eq_true, decide_eq_true_eq, Bool.not_eq_true', List.any_eq_false] at h
        have hv : vrs (l.take (i + 1)) = vrs (l.take i) ++ [t.1] := by
          rw [hs]; unfold vstep; rw [if_pos ⟨h.1, fun hm => h.2 _ hm rfl⟩]
        refine ⟨?_, rfl, by rw [inR_i64]; omega, hm _ (i + 1) 2 d (by omega) ?_⟩
        · change ((vrs (l.take i)).length + 1) * 16 ≤ _
          omega
        · dsimp only [go_sem]
          simp only [hv]
          and_intros <;> first | trivial | rfl | omega
      · simp only [Bool.and_eq_false_iff, decide_eq_false_iff_not, Bool.not_eq_false', List.any_eq_true, decide_eq_true_eq] at h
        have hv : vrs (l.take (i + 1)) = vrs (l.take i) := by
          rw [hs]; unfold vstep; rw [if_neg]
          rintro ⟨h1, h2⟩
          rcases h with h | ⟨x, hx, h⟩
          · exact h h1
          · exact h2 (h ▸ hx)
        refine ⟨by rw [inR_i64]; omega, hm _ (i + 1) 2 d (by omega) ?_⟩
        dsimp only [go_sem]
        simp only [hv]
        and_intros <;> first | trivial | rfl | omega
    · have d : i = l.length := by omega
      subst d
      rw [List.take_length]
      exact ⟨by rw [e], trivial⟩
end Go.Proofs.Ytfidddcjieoblaa.Gx
