/-
  Hierarchy, plain: roots of a union-find.
-/
import Derived.Test.YtfidddcjieoblaaH5
namespace Go.Proofs.Ytfidddcjieoblaa.Gx
open Go Go.RowKit Tw B Nt
set_option linter.unusedVariables false
def par (p : List Int) (i : Int) : Int := p.getD i.toNat 0
/-- the root of an element -/
inductive Rt (p : List Int) : Int → Int → Prop
  | fix {i : Int} : par p i = i → Rt p i i
  | step {i r : Int} : par p i ≠ i → Rt p (par p i) r → Rt p i r
theorem Rt.det {p : List Int} {i r s : Int} (h : Rt p i r) (h' : Rt p i s) : r = s := by
  induction h with
  | fix e => cases h' with
    | fix _ => rfl
    | step e' _ => exact absurd e e'
  | step e _ ih => cases h' with
    | fix e' => exact absurd e' e
    | step _ h2 => exact ih h2
theorem Rt.root {p : List Int} {i r : Int} (h : Rt p i r) : par p r = r := by
  induction h with
  | fix e => exact e
  | step _ _ ih => exact ih
theorem Rt.inv {p : List Int} {i r : Int} (h : Rt p i r) (e : par p i ≠ i) : Rt p (par p i) r := by
  cases h with
  | fix e' => exact absurd e' e
  | step _ h => exact h
theorem par_bound {p : List Int} (hw : wfP p) {i : Int} (h0 : 0 ≤ i) (h1 : i < (p.length : Int)) : 0 ≤ par p i ∧ par p i ≤ i := by
  have := hw i.toNat (by omega)
  unfold par
  omega
theorem Rt.ex {p : List Int} (hw : wfP p) : ∀ (n : Nat) (i : Int), 0 ≤ i → i < (p.length : Int) → i.toNat < n → ∃ r, Rt p i r ∧ 0 ≤ r ∧ r ≤ i
  | 0, _, _, _, h => absurd h (Nat.not_lt_zero _)
  | n + 1, i, h0, h1, h2 => by
    obtain ⟨a, b⟩ := par_bound hw h0 h1
    by_cases e : par p i = i
    · exact ⟨i, .fix e, h0, Int.le_refl _⟩
    · obtain ⟨r, q1, q2, q3⟩ := Rt.ex hw n (par p i) a (by omega) (by omega)
      exact ⟨r, .step e q1, q2, by omega⟩
theorem Rt.bound {p : List Int} (hw : wfP p) {i r : Int} (h0 : 0 ≤ i) (h1 : i < (p.length : Int)) (h : Rt p i r) : 0 ≤ r ∧ r ≤ i := by
  obtain ⟨s, q1, q2, q3⟩ := Rt.ex hw _ i h0 h1 (Nat.lt_succ_self _)
  rw [h.det q1]
  exact ⟨q2, q3⟩
theorem par_set {p : List Int} {i j b : Int} (h0 : 0 ≤ i) (h1 : i < (p.length : Int)) (g0 : 0 ≤ j) : par (p.set i.toNat b) j = if j = i then b else par p j := by
  unfold par
  rw [getD_set' (by omega)]
  by_cases e : j = i
  · rw [if_pos e, if_pos (by rw [e])]
  · rw [if_neg e, if_neg (by omega)]
/-- halving a path keeps roots -/
theorem Rt.halve {p : List Int} (hw : wfP p) {i : Int} (h0 : 0 ≤ i) (h1 : i < (p.length : Int)) (hne : par p i ≠ i) {j r : Int} (g0 : 0 ≤ j) (g1 : j < (p.length : Int)) (h : Rt p j r) :
    Rt (p.set i.toNat (par p (par p i))) j r := by
  obtain ⟨a1, a2⟩ := par_bound hw h0 h1
  obtain ⟨b1, b2⟩ := par_bound hw a1 (by omega)
  induction h with
  | fix e =>
    rename_i j
    have hji : j ≠ i := fun h => hne (by rw [← h]; exact e)
    refine .fix ?_
    rw [par_set h0 h1 g0, if_neg hji]; exact e
  | step e hs ih =>
    rename_i j r
    obtain ⟨c1, c2⟩ := par_bound hw g0 g1
    have ih := ih c1 (by omega)
    by_cases hji : j = i
    · subst hji
      have hpa : par (p.set j.toNat (par p (par p j))) (par p j) = par p (par p j) := by rw [par_set h0 h1 a1, if_neg hne]
      have hpi : par (p.set j.toNat (par p (par p j))) j = par p (par p j) := by rw [par_set h0 h1 h0, if_pos rfl]
      refine .step (by rw [hpi]; omega) ?_
      rw [hpi]
      by_cases e2 : par p (par p j) = par p j
      · rw [e2]; rw [e2] at ih; exact ih
      · have := ih.inv (by rw [hpa]; exact e2)
        rw [hpa] at this
        exact this
    · have hpj : par (p.set i.toNat (par p (par p i))) j = par p j := by rw [par_set h0 h1 g0, if_neg hji]
      exact .step (by rw [hpj]; exact e) (by rw [hpj]; exact ih)
theorem fnd_root : ∀ (n : Nat) (p : List Int) (i : Int), wfP p → 0 ≤ i → i < (p.length : Int) → i.toNat < n →
    Rt p i (fnd n p i).2 ∧ ∀ j r, 0 ≤ j → j < (p.length : Int) → Rt p j r → Rt (fnd n p i).1 j r
  | 0, _, _, _, _, _, h => absurd h (Nat.not_lt_zero _)
  | n + 1, p, i, hw, h0, h1, h2 => by
    unfold fnd
    by_cases e : p.getD i.toNat 0 = i
    · rw [if_pos e]
      exact ⟨.fix e, fun j r _ _ h => h⟩
    · rw [if_neg e]
      obtain ⟨s1, s2, s3, s4⟩ := stepP hw h0 h1 e
      obtain ⟨r1, r2⟩ := fnd_root n (p.set i.toNat (p.getD (p.getD i.toNat 0).toNat 0)) (p.getD (p.getD i.toNat 0).toNat 0) (wfP_set hw (by omega) s3 (by omega)) s3 (by rw [List.length_set]; omega) (by omega)
      have hv : ∀ j r, 0 ≤ j → j < (p.length : Int) → Rt p j r → Rt (p.set i.toNat (p.getD (p.getD i.toNat 0).toNat 0)) j r := fun j r g0 g1 h => h.halve hw h0 h1 e g0 g1
      refine ⟨?_, fun j r g0 g1 h => r2 j r g0 (by rw [List.length_set]; exact g1) (hv j r g0 g1 h)⟩
      obtain ⟨x, q1, _, _⟩ := Rt.ex hw _ i h0 h1 (Nat.lt_succ_self _)
      have hx := hv i x h0 h1 q1
      have hpi : par (p.set i.toNat (p.getD (p.getD i.toNat 0).toNat 0)) i = p.getD (p.getD i.toNat 0).toNat 0 := by rw [par_set h0 h1 h0, if_pos rfl]
      have hy := hx.inv (by rw [hpi]; omega)
      rw [hpi] at hy
      rw [← hy.det r1]
      exact q1
theorem find_root {p : List Int} {i : Int} (hw : wfP p) (h0 : 0 ≤ i) (h1 : i < (p.length : Int)) :
    Rt p i (find p i).2 ∧ ∀ j r, 0 ≤ j → j < (p.length : Int) → Rt p j r → Rt (find p i).1 j r := fnd_root _ p i hw h0 h1 (Nat.lt_succ_self _)
theorem find_find {p : List Int} {i : Int} (hw : wfP p) (h0 : 0 ≤ i) (h1 : i < (p.length : Int)) : (find (find p i).1 i).2 = (find p i).2 := by
  obtain ⟨r1, r2⟩ := find_root hw h0 h1
  obtain ⟨q1, q2, _⟩ := find_spec hw h0 h1
  obtain ⟨s1, _⟩ := find_root (p := (find p i).1) q1 h0 (by rw [q2]; exact h1)
  exact s1.det (r2 i _ h0 h1 r1)
/-- a link joins two classes -/
theorem Rt.link {p : List Int} (hw : wfP p) {a b : Int} (ha : par p a = a) (hb : par p b = b) (a0 : 0 ≤ a) (a1 : a < (p.length : Int)) (b0 : 0 ≤ b) (b1 : b < (p.length : Int)) {j r : Int} (g0 : 0 ≤ j) (g1 : j < (p.length : Int)) (h : Rt p j r) :
    Rt (p.set (max a b).toNat (min a b)) j (if r = max a b then min a b else r) := by
  have hm0 : 0 ≤ max a b := by omega
  have hm1 : max a b < (p.length : Int) := by omega
  have hmin : par p (min a b) = min a b := by
    rcases Int.le_total a b with h | h
    · rw [Int.min_eq_left h]; exact ha
    · rw [Int.min_eq_right h]; exact hb
  have hmax : par p (max a b) = max a b := by
    rcases Int.le_total a b with h | h
    · rw [Int.max_eq_right h]; exact hb
    · rw [Int.max_eq_left h]; exact ha
  have hps : ∀ j, 0 ≤ j → par (p.set (max a b).toNat (min a b)) j = if j = max a b then min a b else par p j := fun j hj => par_set hm0 hm1 hj
  have hroot : Rt (p.set (max a b).toNat (min a b)) (min a b) (min a b) := by
    refine .fix ?_
    rw [hps _ (by omega)]
    split
    · rfl
    · exact hmin
  induction h with
  | fix e =>
    rename_i j
    by_cases hj : j = max a b
    · rw [if_pos hj]
      by_cases hmm : max a b = min a b
      · have hjm : j = min a b := hj.trans hmm
        rw [hjm]
        exact hroot
      · refine .step ?_ ?_
        · rw [hps _ g0, if_pos hj, hj]; exact fun h => hmm h.symm
        · rw [hps _ g0, if_pos hj]; exact hroot
    · rw [if_neg hj]
      refine .fix ?_
      rw [hps _ g0, if_neg hj]; exact e
  | step e hs ih =>
    rename_i j r
    obtain ⟨c1, c2⟩ := par_bound hw g0 g1
    have ih := ih c1 (by omega)
    have hj : j ≠ max a b := fun h => e (by rw [h]; exact hmax)
    refine .step (by rw [hps _ g0, if_neg hj]; exact e) ?_
    rw [hps _ g0, if_neg hj]
    exact ih
end Go.Proofs.Ytfidddcjieoblaa.Gx
