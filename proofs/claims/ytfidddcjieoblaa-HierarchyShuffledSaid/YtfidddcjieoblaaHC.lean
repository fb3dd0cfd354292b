/-
  The parser of queries: atoms, CQs.
-/
import Derived.Test.YtfidddcjieoblaaHB
namespace Go.Proofs.Ytfidddcjieoblaa.Gx
open Go Go.RowKit Tw B Nt
set_option linter.unusedVariables false
set_option linter.unusedSimpArgs false
set_option maxHeartbeats 4000000
set_option maxRecDepth 20000
def opP (s : PS) : PS × Int :=
  if (nexP s 4).2 = [61] then ((nexP s 4).1, 1) else if (nexP s 4).2 = [33, 61] then ((nexP s 4).1, 2)
  else if (nexP s 4).2 = [60] then ((nexP s 4).1, 3) else if (nexP s 4).2 = [60, 61] then ((nexP s 4).1, 4) else (bad (nexP s 4).1, 0)
theorem opP_ad {s : PS} (h : psP s) : Ad s (opP s).1 := by
  have h1 := nexP_ad h 4
  unfold opP
  repeat' split
  all_goals first | exact h1 | exact h1.trans (Ad.bad h1.1)
@[go_sem] noncomputable def EJ8 : Env := (EJ7).addM 53 trmM
theorem EJ8_ok : EJ8.Ok := (EJ7_ok).addM trmM_ok
@[go_sem] def opM : MSpec := ⟨[.b 83 psT], fun d => ⟨[(0, .box 83 (dA psT (opP d.1).1 .nil))], 1, .dat (.int .i64) (opP d.1).2, [psP d.1]⟩⟩
theorem opM_ok : MSpecOk Try.prog 54 opM := by
  refine fnM_ok EJ8_ok opM Try.func54 rfl (by decide) (N := 16) rfl (res := [.tmp 2]) rfl (by decide) [(1, [(4, .ow)])] [] [] 100 (by kernel_rfl) ?_
  rintro ⟨s, _⟩ hw hp H hH
  dsimp only [go_sem] at hw hp ⊢
  obtain ⟨hp, -⟩ := hp
  refine ⟨hp, ?_⟩
  unfold opP
  generalize nexP s 4 = x
  refine ⟨fun h => ?_, fun h1 => ⟨fun h => ?_, fun h2 => ⟨fun h => ?_, fun h3 => ⟨fun h => ?_, fun h4 => ?_⟩⟩⟩⟩
  · rw [if_pos (of_decide_eq_true h)]
    and_intros <;> first | trivial | rfl
  · rw [if_neg (of_decide_eq_false h1), if_pos (of_decide_eq_true h)]
    and_intros <;> first | trivial | rfl
  · rw [if_neg (of_decide_eq_false h1), if_neg (of_decide_eq_false h2), if_pos (of_decide_eq_true h)]
    and_intros <;> first | trivial | rfl
  · rw [if_neg (of_decide_eq_false h1), if_neg (of_decide_eq_false h2), if_neg (of_decide_eq_false h3), if_pos (of_decide_eq_true h)]
    and_intros <;> first | trivial | rfl
  · rw [if_neg (of_decide_eq_false h1), if_neg (of_decide_eq_false h2), if_neg (of_decide_eq_false h3), if_neg (of_decide_eq_false h4)]
    and_intros <;> first | trivial | rfl
/-- more terms of an atom -/
def terF : Nat → PS → List Term → PS × List Term
  | 0, s, acc => (s, acc)
  | n + 1, s, acc => if (takP s [44]).2 = true then terF n (terP (takP s [44]).1).1 (acc ++ [(terP (takP s [44]).1).2]) else ((takP s [44]).1, acc)
theorem terF_ad : ∀ (n : Nat) {s : PS} (acc : List Term), psP s → Ad s (terF n s acc).1
  | 0, s, _, h => Ad.refl h
  | n + 1, s, acc, h => by
    unfold terF
    have h1 := (takP_ad h [44]).1
    split
    · have h2 := terP_ad h1.1
      exact (h1.trans h2).trans (terF_ad n _ h2.1)
    · exact h1
def atoP (s : PS) (r : Str) (ng : Bool) : PS × Atom :=
  if (takP (wanP s [40]) [41]).2 = true then ((takP (wanP s [40]) [41]).1, (r, ng, []))
  else (wanP (terF 20001 (terP (takP (wanP s [40]) [41]).1).1 [(terP (takP (wanP s [40]) [41]).1).2]).1 [41], (r, ng, (terF 20001 (terP (takP (wanP s [40]) [41]).1).1 [(terP (takP (wanP s [40]) [41]).1).2]).2))
theorem atoP_ad {s : PS} (h : psP s) (r : Str) (ng : Bool) : Ad s (atoP s r ng).1 := by
  have h1 := wanP_ad h [40]
  have h2 := (takP_ad h1.1 [41]).1
  have h3 := terP_ad h2.1
  have h4 := terF_ad 20001 [(terP (takP (wanP s [40]) [41]).1).2] h3.1
  unfold atoP
  split
  · exact h1.trans h2
  · exact (((h1.trans h2).trans h3).trans h4).trans (wanP_ad h4.1 _)
@[go_sem] noncomputable def EJ9 : Env := (EJ8).addM 54 opM
theorem EJ9_ok : EJ9.Ok := (EJ8_ok).addM opM_ok
@[go_sem] def atoM : MSpec := ⟨[.b 83 psT, .d .str, .d .bool], fun d => ⟨[(0, .box 83 (dA psT (atoP d.1 d.2.1 d.2.2.1).1 .nil))], 1, .dat atomT (atoP d.1 d.2.1 d.2.2.1).2, [psP d.1]⟩⟩
theorem atoM_ok : MSpecOk Try.prog 52 atoM := by
  refine fnM_ok EJ9_ok atoM Try.func52 rfl (by decide) (N := 35) rfl (res := [.cell 6 41]) rfl (by decide) [(1, [(10, .ag)]), (2, [(12, .ow)]), (3, [(14, .ow)]), (5, [(19, .ow), (20, .dt), (1000000, .mx [(0, 1000000), (1, 4000000), (5000000, 0)])]), (6, [(24, .ow)]), (7, [(28, .ow), (29, .dt), (1000000, .mx [(0, 1000000), (1, 4000000), (5000000, 0)])]), (8, [(33, .ow)])] [(9, [3])] [] 100 (by kernel_rfl) ?_
  rintro ⟨s, r, ng, _⟩ hw hp H hH
  dsimp only [go_sem] at hw hp ⊢
  obtain ⟨hp, -⟩ := hp
  have h1 := wanP_ad hp [40]
  have h2 := (takP_ad h1.1 [41]).1
  have h3 := terP_ad h2.1
  refine ⟨hp, h1.1, fun h => ?_, fun h => ?_⟩
  · unfold atoP
    rw [if_pos h]
    and_intros <;> first | trivial | rfl
  · refine ⟨h2.1, by show 1 * 48 ≤ 140737488355328; decide, ?_⟩
    have hz : atoP s r ng = (wanP (terF 20001 (terP (takP (wanP s [40]) [41]).1).1 [(terP (takP (wanP s [40]) [41]).1).2]).1 [41], (r, ng, (terF 20001 (terP (takP (wanP s [40]) [41]).1).1 [(terP (takP (wanP s [40]) [41]).1).2]).2)) := by
      unfold atoP; rw [if_neg (by rw [h]; decide)]
    have hln : (takP (wanP s [40]) [41]).1.1.length ≤ 20000 := h2.1.2.1
    have hat0 := h3.1.1.1
    have hln3 := h3.1.2.1
    generalize (terP (takP (wanP s [40]) [41]).1).2 = t0 at hz ⊢
    generalize (terP (takP (wanP s [40]) [41]).1).1 = s3 at hz h3 hat0 hln3 ⊢
    refine hH.loop (fun x : Nat × PS × List Term => ⟨[(0, .ref 0 0), (7, .ref 2 0), (6, .ref 1 0)], [(0, .box 83 (dA psT x.2.1 .nil)), (1, .box 41 (zA atomT .nil)), (2, .box 41 (.cons (.dat .str r) (.cons (.dat .bool ng) (.cons (.own 3) .nil)))), (3, .row 45 termT x.2.2)], 4⟩) (fun x => psP x.2.1 ∧ ((x.2.1.1.length : Int) - x.2.1.2.1).toNat < x.1 ∧ x.2.2.length + x.1 ≤ 20002 ∧ terF x.1 x.2.1 x.2.2 = terF 20001 s3 [t0]) (fun x => ((x.2.1.1.length : Int) - x.2.1.2.1).toNat) (20001, s3, [t0]) 4 ⟨h3.1, by dsimp only; omega, Nat.le_refl _, rfl⟩ ?_ ?_
    · dsimp only [go_sem]
      and_intros <;> first | trivial | rfl | omega
    · rintro ⟨n, q, acc⟩ ⟨g1, g2, g3, g4⟩ R hm
      dsimp only at g1 g2 g3 g4
      obtain ⟨n, rfl⟩ : ∃ m, n = m + 1 := ⟨n - 1, by omega⟩
      have g5 := takP_ad g1 [44]
      have g6 := terP_ad g5.1.1
      refine hH.run 100 _ _ ?_
      dsimp only [go_sem]
      refine ⟨g1, fun e => ?_, fun e => ?_⟩
      · have hl : ∀ t : Term, (acc.length + ([t] : List Term).length) * 48 ≤ 140737488355328 := fun t => by rw [List.length_singleton]; omega
        have h7 : q.2.1 + 1 ≤ (terP (takP q [44]).1).1.2.1 := Int.le_trans (g5.2 e) g6.2.2
        have h8 : (terP (takP q [44]).1).1.1.length = q.1.length := by rw [g6.2.1, g5.1.2.1]
        have h9 := g6.1.1.2
        rw [terF, if_pos e] at g4
        generalize terP (takP q [44]).1 = y at g4 g6 h7 h8 h9 ⊢
        refine ⟨g5.1.1, hl _, rfl, hH.ren [(0, 0), (1, 1), (2, 2), (3, 4)] 4 rfl rfl (Nat.le_of_ble_eq_true rfl) rfl ?_⟩
        dsimp only [go_sem]
        refine hm _ (n, y.1, acc ++ [y.2]) 4 ⟨g6.1, by dsimp only; omega, by dsimp only; rw [List.length_append, List.length_singleton]; omega, g4⟩ (by dsimp only; omega) ?_
        dsimp only [go_sem]
        and_intros <;> first | trivial | rfl | omega
      · rw [terF, if_neg (by rw [e]; decide)] at g4
        rw [hz, ← g4]
        refine ⟨g5.1.1, ?_⟩
        and_intros <;> first | trivial | rfl
/-- more atoms and comparisons -/
def cqF : Nat → PS → Bool → Cq → PS × Cq
  | 0, s, _, c => (s, c)
  | n + 1, s, m, c =>
    if (m && !s.2.2) = true then
      if (takP s [110, 111, 116]).2 = true then
        cqF n (takP (atoP (namP (takP s [110, 111, 116]).1).1 (namP (takP s [110, 111, 116]).1).2 true).1 [44]).1 (takP (atoP (namP (takP s [110, 111, 116]).1).1 (namP (takP s [110, 111, 116]).1).2 true).1 [44]).2 (c.1 ++ [(atoP (namP (takP s [110, 111, 116]).1).1 (namP (takP s [110, 111, 116]).1).2 true).2], c.2)
      else if (decide ((terP (takP s [110, 111, 116]).1).2.1 ≠ []) && peekP (terP (takP s [110, 111, 116]).1).1 [40]) = true then
        cqF n (takP (atoP (terP (takP s [110, 111, 116]).1).1 (terP (takP s [110, 111, 116]).1).2.1 false).1 [44]).1 (takP (atoP (terP (takP s [110, 111, 116]).1).1 (terP (takP s [110, 111, 116]).1).2.1 false).1 [44]).2 (c.1 ++ [(atoP (terP (takP s [110, 111, 116]).1).1 (terP (takP s [110, 111, 116]).1).2.1 false).2], c.2)
      else
        cqF n (takP (terP (opP (terP (takP s [110, 111, 116]).1).1).1).1 [44]).1 (takP (terP (opP (terP (takP s [110, 111, 116]).1).1).1).1 [44]).2 (c.1, c.2 ++ [((opP (terP (takP s [110, 111, 116]).1).1).2, (terP (takP s [110, 111, 116]).1).2, (terP (opP (terP (takP s [110, 111, 116]).1).1).1).2)])
    else (s, c)
/-- every term that is read where an atom may stand is a variable -/
def cqK : Nat → PS → Bool → Bool
  | 0, _, _ => true
  | n + 1, s, m =>
    if (m && !s.2.2) = true then
      if (takP s [110, 111, 116]).2 = true then
        cqK n (takP (atoP (namP (takP s [110, 111, 116]).1).1 (namP (takP s [110, 111, 116]).1).2 true).1 [44]).1 (takP (atoP (namP (takP s [110, 111, 116]).1).1 (namP (takP s [110, 111, 116]).1).2 true).1 [44]).2
      else decide ((terP (takP s [110, 111, 116]).1).2.1 ≠ []) && if peekP (terP (takP s [110, 111, 116]).1).1 [40] = true then
        cqK n (takP (atoP (terP (takP s [110, 111, 116]).1).1 (terP (takP s [110, 111, 116]).1).2.1 false).1 [44]).1 (takP (atoP (terP (takP s [110, 111, 116]).1).1 (terP (takP s [110, 111, 116]).1).2.1 false).1 [44]).2
      else
        cqK n (takP (terP (opP (terP (takP s [110, 111, 116]).1).1).1).1 [44]).1 (takP (terP (opP (terP (takP s [110, 111, 116]).1).1).1).1 [44]).2
    else true
def cqP' (s : PS) : PS × Cq :=
  if (takP s [116, 114, 117, 101]).2 = true then ((takP s [116, 114, 117, 101]).1, ([], []))
  else cqF 50000 (takP s [116, 114, 117, 101]).1 true ([], [])
theorem cqF_ad : ∀ (n : Nat) {s : PS} (m : Bool) (c : Cq), psP s → Ad s (cqF n s m c).1
  | 0, s, _, _, h => Ad.refl h
  | n + 1, s, m, c, h => by
    unfold cqF
    split
    · have h1 := (takP_ad h [110, 111, 116]).1
      split
      · have h2 := namP_ad h1.1
        have h3 := atoP_ad h2.1 (namP (takP s [110, 111, 116]).1).2 true
        have h4 := (takP_ad h3.1 [44]).1
        exact (((h1.trans h2).trans h3).trans h4).trans (cqF_ad n _ _ h4.1)
      · have h2 := terP_ad h1.1
        split
        · have h3 := atoP_ad h2.1 (terP (takP s [110, 111, 116]).1).2.1 false
          have h4 := (takP_ad h3.1 [44]).1
          exact (((h1.trans h2).trans h3).trans h4).trans (cqF_ad n _ _ h4.1)
        · have h3 := opP_ad h2.1
          have h4 := terP_ad h3.1
          have h5 := (takP_ad h4.1 [44]).1
          exact ((((h1.trans h2).trans h3).trans h4).trans h5).trans (cqF_ad n _ _ h5.1)
    · exact Ad.refl h
theorem cqP'_ad {s : PS} (h : psP s) : Ad s (cqP' s).1 := by
  unfold cqP'
  have h1 := (takP_ad h [116, 114, 117, 101]).1
  split
  · exact h1
  · exact h1.trans (cqF_ad _ _ _ h1.1)
@[go_sem] noncomputable def EJA : Env := (EJ9).addM 52 atoM
theorem EJA_ok : EJA.Ok := (EJ9_ok).addM atoM_ok
@[go_sem] def cqM : MSpec := ⟨[.b 83 psT], fun d => ⟨[(0, .box 83 (dA psT (cqP' d.1).1 .nil))], 1, (.dat cqT (cqP' d.1).2), [psP d.1, cqK 50000 (takP d.1 [116, 114, 117, 101]).1 true = true]⟩⟩
theorem cqM_ok : MSpecOk Try.prog 51 cqM := by
  refine fnM_ok EJA_ok cqM Try.func51 rfl (by decide) (N := 65) rfl (res := [.cell 2 26]) rfl (by decide) [(1, [(7, .ag)]), (2, [(9, .ow)]), (7, [(22, .ow)]), (8, [(27, .ow), (28, .ow), (29, .dt), (1000000, .mx [(0, 1000000), (1, 4000000), (2, 1000000), (5000000, 0)])]), (9, [(33, .ow)]), (10, [(37, .tr true), (39, .ow)]), (11, [(46, .ow), (47, .dt), (1000000, .mx [(0, 1000000), (1, 4000000), (5000000, 0)])]), (13, [(53, .ow)]), (14, [(56, .ow)]), (15, [(61, .dt)]), (6, [(20, .ow)])] [(16, [3, 4])] [] 100 (by kernel_rfl) ?_
  rintro ⟨s, _⟩ hw hp H hH
  dsimp only [go_sem] at hw hp ⊢
  obtain ⟨hp, hkk, -⟩ := hp
  have h1 := takP_ad hp [116, 114, 117, 101]
  refine ⟨hp, fun h => ?_, fun h => ?_⟩
  · unfold cqP'
    rw [if_pos h]
    and_intros <;> first | trivial | rfl
  · have hz : cqP' s = cqF 50000 (takP s [116, 114, 117, 101]).1 true ([], []) := by
      unfold cqP'; rw [if_neg (by rw [h]; decide)]
    have hln : (takP s [116, 114, 117, 101]).1.1.length ≤ 20000 := h1.1.1.2.1
    have hat0 := h1.1.1.1
    replace h1 := h1.1.1
    generalize (takP s [116, 114, 117, 101]).1 = s0 at hz h1 hln hat0 hkk ⊢
    refine hH.loop (fun x : Nat × PS × Bool × Cq => ⟨[(4, .dat .bool x.2.2.1), (0, .ref 0 0), (3, .ref 2 0), (2, .ref 1 0)], [(0, .box 83 (dA psT x.2.1 .nil)), (1, .box 26 (zA cqT .nil)), (2, .box 26 (.cons (.own 3) (.cons (.own 4) .nil))), (3, .row 41 atomT x.2.2.2.1), (4, .row 54 cmpT x.2.2.2.2)], 5⟩) (fun x => psP x.2.1 ∧ 2 * ((x.2.1.1.length : Int) - x.2.1.2.1).toNat + (if x.2.2.1 = true then 1 else 0) < x.1 ∧ x.2.2.2.1.length + x.1 ≤ 50000 ∧ x.2.2.2.2.length + x.1 ≤ 50000 ∧ cqK x.1 x.2.1 x.2.2.1 = true ∧ cqF x.1 x.2.1 x.2.2.1 x.2.2.2 = cqF 50000 s0 true ([], [])) (fun x => 2 * ((x.2.1.1.length : Int) - x.2.1.2.1).toNat + (if x.2.2.1 = true then 1 else 0)) (50000, s0, true, ([], [])) 3 ⟨h1, by dsimp only; rw [if_pos rfl]; omega, Nat.le_refl _, Nat.le_refl _, hkk, rfl⟩ ?_ ?_
    · dsimp only [go_sem]
      and_intros <;> first | trivial | rfl | omega
    · rintro ⟨n, q, m, c⟩ ⟨g1, g2, g3, g4, g5, g6⟩ R hm
      dsimp only at g1 g2 g3 g4 g5 g6
      obtain ⟨ca, cc⟩ := c
      change List Atom at ca
      change List Cmp at cc
      dsimp only at g3 g4
      obtain ⟨n, rfl⟩ : ∃ k, n = k + 1 := ⟨n - 1, by omega⟩
      refine hH.run 200 _ _ ?_
      dsimp only [go_sem]
      simp only [imp_self, imp2, true_and, and_true]
      have meas : ∀ K : PS × Bool, Ad q K.1 → (K.2 = true → q.2.1 + 1 ≤ K.1.2.1) → 2 * ((K.1.1.length : Int) - K.1.2.1).toNat + (if K.2 = true then 1 else 0) < 2 * ((q.1.length : Int) - q.2.1).toNat + 1 := by
        intro K h1 h2
        have h3 : K.1.1.length = q.1.length := by rw [h1.2.1]
        have h4 := h1.2.2
        have h5 := h1.1.1.2
        split
        · rename_i e
          have := h2 e
          omega
        · omega
      have gT := (takP_ad g1 [110, 111, 116]).1
      refine ⟨fun e => ?_, fun e => ?_⟩
      · have em : m = true := (Bool.and_eq_true_iff.1 e).1
        rw [cqF, if_pos e] at g6
        rw [cqK, if_pos e] at g5
        rw [if_pos em] at g2
        refine ⟨g1, fun e1 => ?_, fun e1 => ?_⟩
        · rw [if_pos e1] at g5 g6
          have gN := namP_ad gT.1
          have gA := atoP_ad gN.1 (namP (takP q [110, 111, 116]).1).2 true
          have gK := takP_ad gA.1 [44]
          have hk : Ad q (takP (atoP (namP (takP q [110, 111, 116]).1).1 (namP (takP q [110, 111, 116]).1).2 true).1 [44]).1 ∧ ((takP (atoP (namP (takP q [110, 111, 116]).1).1 (namP (takP q [110, 111, 116]).1).2 true).1 [44]).2 = true → q.2.1 + 1 ≤ (takP (atoP (namP (takP q [110, 111, 116]).1).1 (namP (takP q [110, 111, 116]).1).2 true).1 [44]).1.2.1) := ⟨((gT.trans gN).trans gA).trans gK.1, fun h => Int.le_trans (by have := ((gT.trans gN).trans gA).2.2; omega) (gK.2 h)⟩
          have hl : ∀ a : Atom, (ca.length + ([a] : List Atom).length) * 48 ≤ 140737488355328 := fun a => by rw [List.length_singleton]; omega
          refine ⟨gT.1, gN.1, hl _, gA.1, hH.ren [(0, 0), (1, 1), (2, 2), (3, 5), (4, 4)] 5 rfl rfl (Nat.le_of_ble_eq_true rfl) rfl ?_⟩
          dsimp only [go_sem]
          refine hm _ (n, (takP (atoP (namP (takP q [110, 111, 116]).1).1 (namP (takP q [110, 111, 116]).1).2 true).1 [44]).1, (takP (atoP (namP (takP q [110, 111, 116]).1).1 (namP (takP q [110, 111, 116]).1).2 true).1 [44]).2, (ca ++ [(atoP (namP (takP q [110, 111, 116]).1).1 (namP (takP q [110, 111, 116]).1).2 true).2], cc)) 5 ⟨?_, ?_, ?_, ?_, g5, g6⟩ ?_ ?_
          · exact hk.1.1
          · have := meas _ hk.1 hk.2; dsimp only; omega
          · dsimp only; rw [List.length_append, List.length_singleton]; omega
          · dsimp only; omega
          · have := meas _ hk.1 hk.2; dsimp only; rw [if_pos em]; exact this
          · dsimp only [go_sem]
            and_intros <;> first | trivial | rfl | omega
        · rw [if_neg (by rw [e1]; decide)] at g5 g6
          simp only [Bool.and_eq_true] at g5
          obtain ⟨g7, g5⟩ := g5
          have gN := terP_ad gT.1
          refine ⟨gT.1, g7, gN.1, fun e2 => ?_, fun e2 => ?_⟩
          · rw [if_pos e2] at g5
            have ec : (decide ((terP (takP q [110, 111, 116]).1).2.1 ≠ []) && peekP (terP (takP q [110, 111, 116]).1).1 [40]) = true := by rw [g7, e2]; rfl
            rw [if_pos ec] at g6
            have gA := atoP_ad gN.1 (terP (takP q [110, 111, 116]).1).2.1 false
            have gK := takP_ad gA.1 [44]
            have hk : Ad q (takP (atoP (terP (takP q [110, 111, 116]).1).1 (terP (takP q [110, 111, 116]).1).2.1 false).1 [44]).1 ∧ ((takP (atoP (terP (takP q [110, 111, 116]).1).1 (terP (takP q [110, 111, 116]).1).2.1 false).1 [44]).2 = true → q.2.1 + 1 ≤ (takP (atoP (terP (takP q [110, 111, 116]).1).1 (terP (takP q [110, 111, 116]).1).2.1 false).1 [44]).1.2.1) := ⟨((gT.trans gN).trans gA).trans gK.1, fun h => Int.le_trans (by have := ((gT.trans gN).trans gA).2.2; omega) (gK.2 h)⟩
            have hl : ∀ a : Atom, (ca.length + ([a] : List Atom).length) * 48 ≤ 140737488355328 := fun a => by rw [List.length_singleton]; omega
            refine ⟨gN.1, hl _, gA.1, hH.ren [(0, 0), (1, 1), (2, 2), (3, 6), (4, 4)] 5 rfl rfl (Nat.le_of_ble_eq_true rfl) rfl ?_⟩
            dsimp only [go_sem]
            refine hm _ (n, (takP (atoP (terP (takP q [110, 111, 116]).1).1 (terP (takP q [110, 111, 116]).1).2.1 false).1 [44]).1, (takP (atoP (terP (takP q [110, 111, 116]).1).1 (terP (takP q [110, 111, 116]).1).2.1 false).1 [44]).2, (ca ++ [(atoP (terP (takP q [110, 111, 116]).1).1 (terP (takP q [110, 111, 116]).1).2.1 false).2], cc)) 5 ⟨?_, ?_, ?_, ?_, g5, g6⟩ ?_ ?_
            · exact hk.1.1
            · have := meas _ hk.1 hk.2; dsimp only; omega
            · dsimp only; rw [List.length_append, List.length_singleton]; omega
            · dsimp only; omega
            · have := meas _ hk.1 hk.2; dsimp only; rw [if_pos em]; exact this
            · dsimp only [go_sem]
              and_intros <;> first | trivial | rfl | omega
          · rw [if_neg (by rw [e2]; decide)] at g5
            have ec : ¬ (decide ((terP (takP q [110, 111, 116]).1).2.1 ≠ []) && peekP (terP (takP q [110, 111, 116]).1).1 [40]) = true := by rw [g7, e2]; decide
            rw [if_neg ec] at g6
            have gO := opP_ad gN.1
            have gA := terP_ad gO.1
            have gK := takP_ad gA.1 [44]
            have hk : Ad q (takP (terP (opP (terP (takP q [110, 111, 116]).1).1).1).1 [44]).1 ∧ ((takP (terP (opP (terP (takP q [110, 111, 116]).1).1).1).1 [44]).2 = true → q.2.1 + 1 ≤ (takP (terP (opP (terP (takP q [110, 111, 116]).1).1).1).1 [44]).1.2.1) := ⟨(((gT.trans gN).trans gO).trans gA).trans gK.1, fun h => Int.le_trans (by have := (((gT.trans gN).trans gO).trans gA).2.2; omega) (gK.2 h)⟩
            have hl : ∀ a : Cmp, (cc.length + ([a] : List Cmp).length) * 104 ≤ 140737488355328 := fun a => by rw [List.length_singleton]; omega
            refine ⟨gN.1, gO.1, hl _, gA.1, hH.ren [(0, 0), (1, 1), (2, 2), (3, 3), (4, 4)] 5 rfl rfl (Nat.le_of_ble_eq_true rfl) rfl ?_⟩
            dsimp only [go_sem]
            refine hm _ (n, (takP (terP (opP (terP (takP q [110, 111, 116]).1).1).1).1 [44]).1, (takP (terP (opP (terP (takP q [110, 111, 116]).1).1).1).1 [44]).2, (ca, cc ++ [((opP (terP (takP q [110, 111, 116]).1).1).2, (terP (takP q [110, 111, 116]).1).2, (terP (opP (terP (takP q [110, 111, 116]).1).1).1).2)])) 5 ⟨?_, ?_, ?_, ?_, g5, g6⟩ ?_ ?_
            · exact hk.1.1
            · have := meas _ hk.1 hk.2; dsimp only; omega
            · dsimp only; omega
            · dsimp only; rw [List.length_append, List.length_singleton]; omega
            · have := meas _ hk.1 hk.2; dsimp only; rw [if_pos em]; exact this
            · dsimp only [go_sem]
              and_intros <;> first | trivial | rfl | omega
      · rw [cqF, if_neg (by rw [e]; decide)] at g6
        rw [hz, ← g6]
        and_intros <;> first | trivial | rfl | omega
end Go.Proofs.Ytfidddcjieoblaa.Gx
