/-
  A violation is one, and there is none exactly if the CQ is hierarchical.
-/
import Derived.Test.YtfidddcjieoblaaHE
import Derived.Test.YtfidddcjieoblaaHR
namespace Go.Proofs.Ytfidddcjieoblaa.Gx
open Go Go.RowKit Tw B Nt
set_option linter.unusedVariables false
set_option linter.unusedSimpArgs false
set_option maxHeartbeats 4000000
set_option maxRecDepth 20000
@[go_sem] theorem tn0 : Int.toNat 0 = 0 := rfl
@[go_sem] theorem tn1 : Int.toNat 1 = 1 := rfl
@[go_sem] theorem tn2 : Int.toNat 2 = 2 := rfl
@[go_sem] noncomputable def EJG : Env := ((EJF).add 10 knS).add 7 buiS
theorem EJG_ok : EJG.Ok := ((EJF_ok).add kn_ok).add bui_ok
@[go_sem] def lWiS : Spec := ⟨[.slice (.int .i64)], fun d => (.dat .bool true, [])⟩
theorem lWi_ok : SpecOk Try.prog 3 lWiS := by
  refine fn_ok EJG_ok lWiS Try.func3 rfl (by decide) (N := 107) rfl (res := [.tmp 2]) rfl (by decide) [] [] [10] 200 (by kernel_rfl) ?_
  rintro ⟨l, _⟩ hw hp
  refine ⟨rfl, fun H hH => ?_⟩
  dsimp only [go_sem] at hw hp ⊢
  clear hw hp
  change List Int at l
  have hP := bld_P l
  generalize bld l = c at hP ⊢
  have hw := @wit_ok c
  have h0 : (viR c (vio c)).2 = false → (viR c (vio c)).1.2.1 = [] := by
    cases e : vio c with
    | none => intro _; rfl
    | some r => intro h; cases h
  generalize viR c (vio c) = W at hw h0 ⊢
  simp only [imp_self, imp2, true_and, and_true]
  refine ⟨hP, hP, fun e => ?_, fun _ => ⟨fun e => ?_, fun e => ?_⟩⟩
  · have := of_decide_eq_true e
    cases hW : W.2 <;> rw [hW] at this <;> cases this
  · have e : W.2 = false := by simpa using e
    rw [h0 e]; rfl
  · have e : W.2 = true := by simpa using e
    obtain ⟨n1, n2, w1, w2, w3⟩ := hw e
    refine hH.loop (fun i : Nat => ⟨[(6, .dat (.int .i64) (i : Int)), (4, .ref 1 0), (3, .ref 0 0)], [(1, .box 34 (.cons (.dat (.slice .str) W.1.1.1) (.cons (.dat (.slice cqT) W.1.1.2) (.cons (.dat .str W.1.2.1) (.cons (.dat .str W.1.2.2.1) (.cons (.dat (.int .i64) W.1.2.2.2.1) (.cons (.dat (.int .i64) W.1.2.2.2.2.1) (.cons (.dat (.int .i64) W.1.2.2.2.2.2) .nil)))))))), (0, .box 26 (.cons (.dat (.slice atomT) c.1) (.cons (.dat (.slice cmpT) c.2) .nil)))], 2⟩) (fun i => i ≤ 3) (fun i => 3 - i) 0 2 (Nat.zero_le _) ?_ ?_
    · dsimp only [go_sem]
      and_intros <;> first | trivial | rfl | omega
    · intro i hi R hm
      refine hH.run 200 _ _ ?_
      dsimp only [go_sem]
      simp only [imp_self, imp2, true_and, and_true]
      refine ⟨fun d => ?_, fun d => ?_⟩ <;> simp only [decide_eq_true_eq, decide_eq_false_iff_not] at d
      · have d : i < 3 := by omega
        have hc : i = 0 ∨ i = 1 ∨ i = 2 := by omega
        have ha3 : isA3 Try.prog 32 := ⟨_, _, rfl, rfl, rfl, rfl, rfl⟩
        rcases hc with rfl | rfl | rfl
        · rw [show ((0 : Nat) : Int) = 0 from rfl]
          obtain ⟨a0, a1, a2, a3⟩ := w1
          have b3 : (0 : Int) ≤ 0 ∧ (0 : Int) < 3 := by decide
          have ab : (0 : Int) ≤ W.1.2.2.2.1 ∧ W.1.2.2.2.1 < (c.1.length : Int) := ⟨a0, a1⟩
          refine hH.go [] 200 _ _ ?_
          dsimp only [go_sem]
          simp only [imp_self, imp2, true_and, and_true]
          refine ⟨b3, ha3, fun _ => b3, fun _ => ha3, fun e => ?_, fun _ => ⟨b3, ha3, ab, ?_⟩⟩
          · simp only [Bool.or_eq_true, decide_eq_true_eq] at e
            rcases e with e | e
            · exact absurd e (Int.not_lt.2 ab.1)
            · exact absurd ab.2 (Int.not_lt.2 e)
          have hx : (c.1.getD (W.1.2.2.2.1).toNat (zd atomT)).2.2.any (isV W.1.2.1) = true := a2
          have hy : (c.1.getD (W.1.2.2.2.1).toNat (zd atomT)).2.2.any (isV W.1.2.2.1) = false := a3
          have hln : List.length (c.1.getD (W.1.2.2.2.1).toNat (zd atomT)).2.2 ≤ 1000 := hP.2.1 _ (getDm (zd atomT) (by omega))
          refine HOk.loop (by assumption) (fun k : Nat => ⟨[(10, .dat (.int .i64) (k : Int)), (9, .dat (.slice termT) (c.1.getD (W.1.2.2.2.1).toNat (zd atomT)).2.2), (7, .dat .bool (((c.1.getD (W.1.2.2.2.1).toNat (zd atomT)).2.2.take k).any (isV W.1.2.1))), (8, .dat .bool (((c.1.getD (W.1.2.2.2.1).toNat (zd atomT)).2.2.take k).any (isV W.1.2.2.1))), (6, .dat (.int .i64) (0 : Int)), (4, .ref 1 0), (3, .ref 0 0)], [(1, .box 34 (.cons (.dat (.slice .str) W.1.1.1) (.cons (.dat (.slice cqT) W.1.1.2) (.cons (.dat .str W.1.2.1) (.cons (.dat .str W.1.2.2.1) (.cons (.dat (.int .i64) W.1.2.2.2.1) (.cons (.dat (.int .i64) W.1.2.2.2.2.1) (.cons (.dat (.int .i64) W.1.2.2.2.2.2) .nil)))))))), (0, .box 26 (.cons (.dat (.slice atomT) c.1) (.cons (.dat (.slice cmpT) c.2) .nil)))], 2⟩) (fun k => k ≤ List.length (c.1.getD (W.1.2.2.2.1).toNat (zd atomT)).2.2) (fun k => List.length (c.1.getD (W.1.2.2.2.1).toNat (zd atomT)).2.2 - k) 0 2 (Nat.zero_le _) ?_ ?_
          · dsimp only [go_sem]
            and_intros <;> first | trivial | rfl | omega
          · intro k hk R2 hm2
            refine hH.go [] 200 _ _ ?_
            dsimp only [go_sem]
            generalize (c.1.getD (W.1.2.2.2.1).toNat (zd atomT)).2.2 = tl at hx hy hln hk hm2 ⊢
            change List Term at tl
            simp only [imp_self, imp2, true_and, and_true]
            refine ⟨fun d => ?_, fun d => ?_⟩ <;> simp only [decide_eq_true_eq, decide_eq_false_iff_not] at d
            · have d : k < tl.length := by omega
              have hb : (0 : Int) ≤ (k : Int) ∧ (k : Int) < (tl.length : Int) := by omega
              have ex := any_snoc (p := isV W.1.2.1) (zd termT) d
              have ey := any_snoc (p := isV W.1.2.2.1) (zd termT) d
              refine ⟨fun _ => hb, fun _ => hb, by rw [inR_i64]; omega, hm2 _ (k + 1) 2 d (by omega) ?_⟩
              dsimp only [go_sem]
              rw [ex, ey]
              and_intros <;> first | trivial | rfl | omega
            · have d : k = tl.length := by omega
              subst d
              rw [List.take_length, hx, hy]
              refine ⟨fun e => absurd e (by decide), fun _ => ⟨by rw [inR_i64]; decide, hm _ (0 + 1) 2 (by decide) (by decide) ?_⟩⟩
              dsimp only [go_sem]
              and_intros <;> first | trivial | rfl | omega
        · rw [show ((1 : Nat) : Int) = 1 from rfl]
          obtain ⟨a0, a1, a2, a3⟩ := w2
          have b3 : (0 : Int) ≤ 1 ∧ (1 : Int) < 3 := by decide
          have ab : (0 : Int) ≤ W.1.2.2.2.2.1 ∧ W.1.2.2.2.2.1 < (c.1.length : Int) := ⟨a0, a1⟩
          refine hH.go [] 200 _ _ ?_
          dsimp only [go_sem]
          simp only [imp_self, imp2, true_and, and_true]
          refine ⟨b3, ha3, fun _ => b3, fun _ => ha3, fun e => ?_, fun _ => ⟨b3, ha3, ab, ?_⟩⟩
          · simp only [Bool.or_eq_true, decide_eq_true_eq] at e
            rcases e with e | e
            · exact absurd e (Int.not_lt.2 ab.1)
            · exact absurd ab.2 (Int.not_lt.2 e)
          have hx : (c.1.getD (W.1.2.2.2.2.1).toNat (zd atomT)).2.2.any (isV W.1.2.1) = true := a2
          have hy : (c.1.getD (W.1.2.2.2.2.1).toNat (zd atomT)).2.2.any (isV W.1.2.2.1) = true := a3
          have hln : List.length (c.1.getD (W.1.2.2.2.2.1).toNat (zd atomT)).2.2 ≤ 1000 := hP.2.1 _ (getDm (zd atomT) (by omega))
          refine HOk.loop (by assumption) (fun k : Nat => ⟨[(10, .dat (.int .i64) (k : Int)), (9, .dat (.slice termT) (c.1.getD (W.1.2.2.2.2.1).toNat (zd atomT)).2.2), (7, .dat .bool (((c.1.getD (W.1.2.2.2.2.1).toNat (zd atomT)).2.2.take k).any (isV W.1.2.1))), (8, .dat .bool (((c.1.getD (W.1.2.2.2.2.1).toNat (zd atomT)).2.2.take k).any (isV W.1.2.2.1))), (6, .dat (.int .i64) (1 : Int)), (4, .ref 1 0), (3, .ref 0 0)], [(1, .box 34 (.cons (.dat (.slice .str) W.1.1.1) (.cons (.dat (.slice cqT) W.1.1.2) (.cons (.dat .str W.1.2.1) (.cons (.dat .str W.1.2.2.1) (.cons (.dat (.int .i64) W.1.2.2.2.1) (.cons (.dat (.int .i64) W.1.2.2.2.2.1) (.cons (.dat (.int .i64) W.1.2.2.2.2.2) .nil)))))))), (0, .box 26 (.cons (.dat (.slice atomT) c.1) (.cons (.dat (.slice cmpT) c.2) .nil)))], 2⟩) (fun k => k ≤ List.length (c.1.getD (W.1.2.2.2.2.1).toNat (zd atomT)).2.2) (fun k => List.length (c.1.getD (W.1.2.2.2.2.1).toNat (zd atomT)).2.2 - k) 0 2 (Nat.zero_le _) ?_ ?_
          · dsimp only [go_sem]
            and_intros <;> first | trivial | rfl | omega
          · intro k hk R2 hm2
            refine hH.go [] 200 _ _ ?_
            dsimp only [go_sem]
            generalize (c.1.getD (W.1.2.2.2.2.1).toNat (zd atomT)).2.2 = tl at hx hy hln hk hm2 ⊢
            change List Term at tl
            simp only [imp_self, imp2, true_and, and_true]
            refine ⟨fun d => ?_, fun d => ?_⟩ <;> simp only [decide_eq_true_eq, decide_eq_false_iff_not] at d
            · have d : k < tl.length := by omega
              have hb : (0 : Int) ≤ (k : Int) ∧ (k : Int) < (tl.length : Int) := by omega
              have ex := any_snoc (p := isV W.1.2.1) (zd termT) d
              have ey := any_snoc (p := isV W.1.2.2.1) (zd termT) d
              refine ⟨fun _ => hb, fun _ => hb, by rw [inR_i64]; omega, hm2 _ (k + 1) 2 d (by omega) ?_⟩
              dsimp only [go_sem]
              rw [ex, ey]
              and_intros <;> first | trivial | rfl | omega
            · have d : k = tl.length := by omega
              subst d
              rw [List.take_length, hx, hy]
              refine ⟨fun e => absurd e (by decide), fun _ => ⟨by rw [inR_i64]; decide, hm _ (1 + 1) 2 (by decide) (by decide) ?_⟩⟩
              dsimp only [go_sem]
              and_intros <;> first | trivial | rfl | omega
        · rw [show ((2 : Nat) : Int) = 2 from rfl]
          obtain ⟨a0, a1, a2, a3⟩ := w3
          have b3 : (0 : Int) ≤ 2 ∧ (2 : Int) < 3 := by decide
          have ab : (0 : Int) ≤ W.1.2.2.2.2.2 ∧ W.1.2.2.2.2.2 < (c.1.length : Int) := ⟨a0, a1⟩
          refine hH.go [] 200 _ _ ?_
          dsimp only [go_sem]
          simp only [imp_self, imp2, true_and, and_true]
          refine ⟨b3, ha3, fun _ => b3, fun _ => ha3, fun e => ?_, fun _ => ⟨b3, ha3, ab, ?_⟩⟩
          · simp only [Bool.or_eq_true, decide_eq_true_eq] at e
            rcases e with e | e
            · exact absurd e (Int.not_lt.2 ab.1)
            · exact absurd ab.2 (Int.not_lt.2 e)
          have hx : (c.1.getD (W.1.2.2.2.2.2).toNat (zd atomT)).2.2.any (isV W.1.2.1) = false := a2
          have hy : (c.1.getD (W.1.2.2.2.2.2).toNat (zd atomT)).2.2.any (isV W.1.2.2.1) = true := a3
          have hln : List.length (c.1.getD (W.1.2.2.2.2.2).toNat (zd atomT)).2.2 ≤ 1000 := hP.2.1 _ (getDm (zd atomT) (by omega))
          refine HOk.loop (by assumption) (fun k : Nat => ⟨[(10, .dat (.int .i64) (k : Int)), (9, .dat (.slice termT) (c.1.getD (W.1.2.2.2.2.2).toNat (zd atomT)).2.2), (7, .dat .bool (((c.1.getD (W.1.2.2.2.2.2).toNat (zd atomT)).2.2.take k).any (isV W.1.2.1))), (8, .dat .bool (((c.1.getD (W.1.2.2.2.2.2).toNat (zd atomT)).2.2.take k).any (isV W.1.2.2.1))), (6, .dat (.int .i64) (2 : Int)), (4, .ref 1 0), (3, .ref 0 0)], [(1, .box 34 (.cons (.dat (.slice .str) W.1.1.1) (.cons (.dat (.slice cqT) W.1.1.2) (.cons (.dat .str W.1.2.1) (.cons (.dat .str W.1.2.2.1) (.cons (.dat (.int .i64) W.1.2.2.2.1) (.cons (.dat (.int .i64) W.1.2.2.2.2.1) (.cons (.dat (.int .i64) W.1.2.2.2.2.2) .nil)))))))), (0, .box 26 (.cons (.dat (.slice atomT) c.1) (.cons (.dat (.slice cmpT) c.2) .nil)))], 2⟩) (fun k => k ≤ List.length (c.1.getD (W.1.2.2.2.2.2).toNat (zd atomT)).2.2) (fun k => List.length (c.1.getD (W.1.2.2.2.2.2).toNat (zd atomT)).2.2 - k) 0 2 (Nat.zero_le _) ?_ ?_
          · dsimp only [go_sem]
            and_intros <;> first | trivial | rfl | omega
          · intro k hk R2 hm2
            refine hH.go [] 200 _ _ ?_
            dsimp only [go_sem]
            generalize (c.1.getD (W.1.2.2.2.2.2).toNat (zd atomT)).2.2 = tl at hx hy hln hk hm2 ⊢
            change List Term at tl
            simp only [imp_self, imp2, true_and, and_true]
            refine ⟨fun d => ?_, fun d => ?_⟩ <;> simp only [decide_eq_true_eq, decide_eq_false_iff_not] at d
            · have d : k < tl.length := by omega
              have hb : (0 : Int) ≤ (k : Int) ∧ (k : Int) < (tl.length : Int) := by omega
              have ex := any_snoc (p := isV W.1.2.1) (zd termT) d
              have ey := any_snoc (p := isV W.1.2.2.1) (zd termT) d
              refine ⟨fun _ => hb, fun _ => hb, by rw [inR_i64]; omega, hm2 _ (k + 1) 2 d (by omega) ?_⟩
              dsimp only [go_sem]
              rw [ex, ey]
              and_intros <;> first | trivial | rfl | omega
            · have d : k = tl.length := by omega
              subst d
              rw [List.take_length, hx, hy]
              refine ⟨fun e => absurd e (by decide), fun _ => ⟨by rw [inR_i64]; decide, hm _ (2 + 1) 2 (by decide) (by decide) ?_⟩⟩
              dsimp only [go_sem]
              and_intros <;> first | trivial | rfl | omega
      · simp [n1, n2]
end Go.Proofs.Ytfidddcjieoblaa.Gx
