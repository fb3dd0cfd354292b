/-
  Hierarchy: components.
-/
import Derived.Test.YtfidddcjieoblaaH4
namespace Go.Proofs.Ytfidddcjieoblaa.Gx
open Go Go.RowKit Tw B Nt
set_option linter.unusedVariables false
set_option linter.unusedSimpArgs false
set_option maxHeartbeats 4000000
set_option maxRecDepth 20000
/-! union-find -/
def wfP (p : List Int) : Prop := ∀ k, k < p.length → 0 ≤ p.getD k 0 ∧ p.getD k 0 ≤ (k : Int)
def fnd : Nat → List Int → Int → List Int × Int
  | 0, p, i => (p, i)
  | n + 1, p, i => if p.getD i.toNat 0 = i then (p, i) else fnd n (p.set i.toNat (p.getD (p.getD i.toNat 0).toNat 0)) (p.getD (p.getD i.toNat 0).toNat 0)
def find (p : List Int) (i : Int) : List Int × Int := fnd (i.toNat + 1) p i
theorem getD_set' {p : List Int} {i k : Nat} {b : Int} (hi : i < p.length) : (p.set i b).getD k 0 = if i = k then b else p.getD k 0 := by
  rw [List.getD_eq_getElem?_getD, List.getElem?_set]
  split
  · simp [hi]
  · rw [List.getD_eq_getElem?_getD]
theorem wfP_set {p : List Int} {i : Nat} {b : Int} (h : wfP p) (hi : i < p.length) (h0 : 0 ≤ b) (h1 : b ≤ (i : Int)) : wfP (p.set i b) := by
  intro k hk
  rw [List.length_set] at hk
  rw [getD_set' hi]
  split
  · subst_vars; exact ⟨h0, h1⟩
  · exact h k hk
/-- a step of the search -/
theorem stepP {p : List Int} {i : Int} (h : wfP p) (h0 : 0 ≤ i) (h1 : i < (p.length : Int)) (hne : p.getD i.toNat 0 ≠ i) :
    0 ≤ p.getD i.toNat 0 ∧ p.getD i.toNat 0 < i ∧ 0 ≤ p.getD (p.getD i.toNat 0).toNat 0 ∧ p.getD (p.getD i.toNat 0).toNat 0 < i := by
  have a := h i.toNat (by omega)
  have b := h (p.getD i.toNat 0).toNat (by omega)
  omega
@[go_sem] def fndM : MSpec := ⟨[.d (.int .i64), .br 22 3 (.int .i64)], fun d => ⟨[(0, .box 22 (.cons (.own 1) .nil)), (1, .row 3 (.int .i64) (find d.2.1 d.1).1)], 2, .dat (.int .i64) (find d.2.1 d.1).2, [wfP d.2.1 ∧ 0 ≤ d.1 ∧ d.1 < (List.length d.2.1 : Int)]⟩⟩
theorem fndM_ok : MSpecOk Try.prog 18 fndM := by
  refine fnM_ok E3_ok fndM Try.func18 rfl (by decide) (N := 25) rfl (res := [.tmp 3]) rfl (by decide) [] [] [] 100 (by kernel_rfl) ?_
  rintro ⟨(i:Int), p, _⟩ hw hp H hH
  dsimp only [go_sem] at hw hp ⊢
  obtain ⟨hp, -⟩ := hp
  change List Int at p
  obtain ⟨hp1, hp2, hp3⟩ := hp
  refine hH.loop (fun x : Nat × List Int × Int => ⟨[(0, .dat (.int .i64) x.2.2), (1, .ref 0 0), (3, .dat (.int .i64) (0 : Int))], [(0, .box 22 (.cons (.own 1) .nil)), (1, .row 3 (.int .i64) x.2.1)], 2⟩) (fun x => wfP x.2.1 ∧ x.2.1.length = p.length ∧ 0 ≤ x.2.2 ∧ x.2.2 < (p.length : Int) ∧ x.2.2.toNat < x.1 ∧ fnd x.1 x.2.1 x.2.2 = find p i) (fun x => x.2.2.toNat) (i.toNat + 1, p, i) 2 ⟨hp1, rfl, hp2, hp3, Nat.lt_succ_self _, rfl⟩ ?_ ?_
  · dsimp only [go_sem]
    and_intros <;> first | trivial | rfl | omega
  · rintro ⟨n, q, j⟩ ⟨h1, h2, h3, h4, h5, h6⟩ R hm
    dsimp only at h1 h2 h3 h4 h5 h6
    refine hH.run 100 _ _ ?_
    dsimp only [go_sem]
    have hz : zd (Ty.int .i64) = (0 : Int) := rfl
    obtain ⟨n, rfl⟩ : ∃ m, n = m + 1 := ⟨n - 1, by omega⟩
    simp only [hz]
    have hb : (0 : Int) ≤ j ∧ j < (q.length : Int) := ⟨h3, by omega⟩
    have hbn : j.toNat < q.length := by omega
    refine ⟨hb, hbn, fun e => ?_, fun e => ?_⟩
    · simp only [decide_eq_true_eq] at e
      obtain ⟨s1, s2, s3, s4⟩ := stepP h1 h3 (by omega) e
      simp only [fnd, if_neg e] at h6
      simp only [List.length_set]
      have hs : (0 : Int) ≤ q.getD j.toNat 0 ∧ q.getD j.toNat 0 < (q.length : Int) := ⟨s1, by omega⟩
      have hsn : (q.getD j.toNat 0).toNat < q.length := by omega
      refine ⟨hb, hbn, hs, hsn, hb, hbn, hb, hbn, ?_⟩
      rw [getD_set' (by omega), if_pos rfl]
      refine hm _ (n, q.set j.toNat (q.getD (q.getD j.toNat 0).toNat 0), q.getD (q.getD j.toNat 0).toNat 0) 2 ⟨wfP_set h1 (by omega) s3 (by omega), by rw [List.length_set]; exact h2, s3, ?_, ?_, h6⟩ ?_ ?_
      · dsimp only; omega
      · dsimp only; omega
      · dsimp only; omega
      · dsimp only [go_sem]
        and_intros <;> first | trivial | rfl | omega
    · simp only [decide_eq_false_iff_not, Decidable.not_not] at e
      simp only [fnd, if_pos e] at h6
      rw [← h6]
      and_intros <;> first | trivial | rfl | omega
/-! plain laws of the search -/
/-- the root of an element -/
def rt (p : List Int) (k : Nat) : Nat := (find p k).2.toNat
theorem fnd_spec : ∀ (n : Nat) (p : List Int) (i : Int), wfP p → 0 ≤ i → i < (p.length : Int) → i.toNat < n →
    wfP (fnd n p i).1 ∧ (fnd n p i).1.length = p.length ∧ 0 ≤ (fnd n p i).2 ∧ (fnd n p i).2 ≤ i ∧ (fnd n p i).1.getD (fnd n p i).2.toNat 0 = (fnd n p i).2
  | 0, _, _, _, _, _, h => absurd h (Nat.not_lt_zero _)
  | n + 1, p, i, hw, h0, h1, h2 => by
    unfold fnd
    split
    · rename_i e
      exact ⟨hw, rfl, h0, Int.le_refl _, e⟩
    · rename_i e
      obtain ⟨s1, s2, s3, s4⟩ := stepP hw h0 h1 e
      obtain ⟨r1, r2, r3, r4, r5⟩ := fnd_spec n (p.set i.toNat (p.getD (p.getD i.toNat 0).toNat 0)) (p.getD (p.getD i.toNat 0).toNat 0) (wfP_set hw (by omega) s3 (by omega)) s3 (by rw [List.length_set]; omega) (by omega)
      exact ⟨r1, by rw [r2, List.length_set], r3, by omega, r5⟩
theorem find_spec {p : List Int} {i : Int} (hw : wfP p) (h0 : 0 ≤ i) (h1 : i < (p.length : Int)) :
    wfP (find p i).1 ∧ (find p i).1.length = p.length ∧ 0 ≤ (find p i).2 ∧ (find p i).2 ≤ i ∧ (find p i).1.getD (find p i).2.toNat 0 = (find p i).2 := fnd_spec _ p i hw h0 h1 (Nat.lt_succ_self _)
/-- one link -/
def lnk (p : List Int) (a b : Int) : List Int :=
  let x := find p a
  let y := find x.1 b
  y.1.set (max x.2 y.2).toNat (min x.2 y.2)
theorem lnk_spec {p : List Int} {a b : Int} (hw : wfP p) (h0 : 0 ≤ a) (h1 : a < (p.length : Int)) (g0 : 0 ≤ b) (g1 : b < (p.length : Int)) : wfP (lnk p a b) ∧ (lnk p a b).length = p.length := by
  obtain ⟨r1, r2, r3, r4, r5⟩ := find_spec hw h0 h1
  obtain ⟨q1, q2, q3, q4, q5⟩ := find_spec r1 g0 (by rw [r2]; exact g1)
  unfold lnk
  dsimp only
  refine ⟨wfP_set q1 (by omega) (by omega) (by omega), by rw [List.length_set, q2, r2]⟩
def con (p : List Int) (l : List Int) (k : Nat) : List Int := (l.take k).foldl (fun p i => lnk p (l.getD 0 0) i) p
theorem con_succ {p l : List Int} {k : Nat} (h : k < l.length) : con p l (k + 1) = lnk (con p l k) (l.getD 0 0) (l.getD k 0) := by
  unfold con
  rw [take_snoc 0 h, List.foldl_append]
  rfl
def inP' (n : Nat) (l : List Int) : Prop := ∀ x ∈ l, 0 ≤ x ∧ x < (n : Int)
theorem con_spec {p l : List Int} (hw : wfP p) (hl : inP' p.length l) : ∀ k, k ≤ l.length → wfP (con p l k) ∧ (con p l k).length = p.length
  | 0, _ => ⟨hw, rfl⟩
  | k + 1, h => by
    obtain ⟨h1, h2⟩ := con_spec hw hl k (by omega)
    rw [con_succ (by omega)]
    have a := hl _ (getDm 0 (show 0 < l.length by omega))
    have b := hl _ (getDm 0 (show k < l.length by omega))
    obtain ⟨r1, r2⟩ := lnk_spec h1 a.1 (by rw [h2]; exact a.2) b.1 (by rw [h2]; exact b.2)
    exact ⟨r1, by rw [r2, h2]⟩
@[go_sem] noncomputable def EH9 : Env := ((EH8).add 8 fvS).addM 18 fndM
theorem EH9_ok : EH9.Ok := ((EH8_ok).add fv_ok).addM fndM_ok
@[go_sem] def conM : MSpec := ⟨[.d (.slice (.int .i64)), .bf 60 18, .br 22 3 (.int .i64)], fun d => ⟨[(0, .box 60 (.cons (.clo 18 (.cons (.ref 1 0) .nil)) .nil)), (1, .box 22 (.cons (.own 2) .nil)), (2, .row 3 (.int .i64) (con d.2.1 d.1 (List.length d.1)))], 3, .tup .nil, [wfP d.2.1 ∧ inP' (List.length d.2.1) d.1 ∧ List.length d.1 ≤ 2000000]⟩⟩
theorem conM_ok : MSpecOk Try.prog 19 conM := by
  refine fnM_ok EH9_ok conM Try.func19 rfl (by decide) (N := 31) rfl (res := []) rfl (by decide) [(3, [(18, .ow), (21, .ow), (1000000, .mx [(5, 4), (6, 4)])])] [] [] 100 (by kernel_rfl) ?_
  rintro ⟨l, p, _⟩ hw hp H hH
  dsimp only [go_sem] at hw hp ⊢
  obtain ⟨hp, -⟩ := hp
  obtain ⟨hp1, hp2, hp3⟩ := hp
  change List Int at l p
  change List.length l ≤ 2000000 at hp3
  refine hH.loop (fun k : Nat => ⟨[(10, .dat (.int .i64) (k : Int)), (9, .dat (.int .i64) (List.length l : Int)), (8, .dat (.slice (.int .i64)) l), (0, .dat (.slice (.int .i64)) l), (1, .ref 0 0), (2, .ref 1 0)], [(0, .box 60 (.cons (.clo 18 (.cons (.ref 1 0) .nil)) .nil)), (1, .box 22 (.cons (.own 2) .nil)), (2, .row 3 (.int .i64) (con p l k))], 3⟩) (fun k => k ≤ l.length) (fun k => l.length - k) 0 3 (Nat.zero_le _) ?_ ?_
  · dsimp only [go_sem]
    and_intros <;> first | trivial | rfl | omega
  · intro k hk R hm
    refine hH.run 100 _ _ ?_
    dsimp only [go_sem]
    have hz : zd (Ty.int .i64) = (0 : Int) := rfl
    have hmx : ∀ x y : Int, (if y > x then y else x) = max x y := fun x y => by split <;> omega
    have hmn : ∀ x y : Int, (if y < x then y else x) = min x y := fun x y => by split <;> omega
    simp only [hz, Int.toNat_natCast, Int.toNat_zero]
    refine ⟨fun d => ?_, fun d => ?_⟩ <;> simp only [decide_eq_true_eq, decide_eq_false_iff_not] at d
    · have d : k < l.length := by omega
      obtain ⟨w1, w2⟩ := con_spec hp1 hp2 k hk
      have hc := con_succ (p := p) d
      have a1 := hp2 _ (getDm 0 (show 0 < l.length by omega))
      have b1 := hp2 _ (getDm 0 d)
      have hl0 : (0 : Int) ≤ 0 ∧ (0 : Int) < (l.length : Int) := by omega
      have hl1 : (0 : Int) ≤ (k : Int) ∧ (k : Int) < (l.length : Int) := by omega
      have hik : inR .i64 ((k : Int) + 1) := by rw [inR_i64]; omega
      rw [← w2] at a1 b1
      unfold lnk at hc
      dsimp only at hc
      generalize con p l k = q at hc w1 w2 a1 b1 ⊢
      generalize l.getD 0 0 = a0 at hc a1 ⊢
      generalize l.getD k 0 = b0 at hc b1 ⊢
      obtain ⟨r1, r2, r3, r4, r5⟩ := find_spec w1 a1.1 a1.2
      have b2 : b0 < ((find q a0).1.length : Int) := by rw [r2]; exact b1.2
      obtain ⟨t1, t2, t3, t4, t5⟩ := find_spec r1 b1.1 b2
      generalize find q a0 = x at hc r1 r2 r3 r4 b2 t1 t2 t3 t4 ⊢
      generalize find x.1 b0 = y at hc t1 t2 t3 t4 ⊢
      have hm1 : (0 : Int) ≤ max x.2 y.2 ∧ max x.2 y.2 < (y.1.length : Int) := by omega
      have hm2 : (max x.2 y.2).toNat < y.1.length := by omega
      rw [hmx, hmn]
      refine ⟨hl1, hl0, ⟨w1, a1⟩, ⟨r1, b1.1, b2⟩, hm1, hm2, hik, hH.ren [(0, 0), (1, 1), (2, 4)] 3 rfl rfl (Nat.le_refl _) rfl ?_⟩
      dsimp only [go_sem]
      refine hm _ (k + 1) 3 d (by omega) ?_
      dsimp only [go_sem]
      rw [hc]
      and_intros <;> first | trivial | rfl | omega
    · have d : k = l.length := by omega
      subst d
      and_intros <;> first | trivial | rfl | omega
end Go.Proofs.Ytfidddcjieoblaa.Gx
