/-
  Polynomials over the rational numbers as lists of coefficients: plain algebra.
-/
import Derived.Test.YtpneaknfnlnbcaaD8
namespace Go.Proofs.Ytpneaknfnlnbcaa.Gx
set_option linter.unusedVariables false
theorem rat_mul_left_comm (a b c : Rat) : a * (b * c) = b * (a * c) := by rw [← Rat.mul_assoc, Rat.mul_comm a b, Rat.mul_assoc]
abbrev QL := List Rat
/-- the coefficient of x^i -/
def co (p : QL) (i : Nat) : Rat := p.getD i 0
theorem co_nil (i : Nat) : co [] i = 0 := rfl
theorem co_zero (a : Rat) (p : QL) : co (a :: p) 0 = a := rfl
theorem co_succ (a : Rat) (p : QL) (i : Nat) : co (a :: p) (i + 1) = co p i := by simp [co]
theorem co_ge {p : QL} {i : Nat} (h : p.length ≤ i) : co p i = 0 := by
  unfold co; rw [List.getD_eq_getElem?_getD, List.getElem?_eq_none h]; rfl
theorem co_lt {p : QL} {i : Nat} (h : i < p.length) : co p i = p[i] := by
  unfold co; rw [List.getD_eq_getElem?_getD, List.getElem?_eq_getElem h]; rfl
theorem co_ext {p q : QL} (hl : p.length = q.length) (h : ∀ i, co p i = co q i) : p = q := by
  apply List.ext_getElem hl
  intro i h1 h2
  rw [← co_lt h1, ← co_lt h2, h]
/-- without the zeros at the end -/
def tr : QL → QL
  | [] => []
  | a :: l => match tr l with
    | [] => if a = 0 then [] else [a]
    | b :: k => a :: b :: k
theorem tr_cons (a : Rat) (l : QL) : tr (a :: l) = if tr l = [] ∧ a = 0 then [] else a :: tr l := by
  show (match tr l with | [] => if a = 0 then [] else [a] | b :: k => a :: b :: k) = _
  cases h : tr l with
  | nil => simp
  | cons b k => simp
theorem co_tr : ∀ (p : QL) (i : Nat), co (tr p) i = co p i
  | [], i => rfl
  | a :: l, i => by
    rw [tr_cons]
    have ih := co_tr l
    split
    · rename_i h
      cases i with
      | zero => rw [co_zero]; exact h.2.symm
      | succ i => rw [co_succ, ← ih i, h.1]; rfl
    · cases i with
      | zero => rfl
      | succ i => rw [co_succ, co_succ, ih i]
theorem tr_nil : ∀ {p : QL}, tr p = [] ↔ ∀ i, co p i = 0
  | [] => ⟨fun _ _ => rfl, fun _ => rfl⟩
  | a :: l => by
    have ih := tr_nil (p := l)
    rw [tr_cons]
    constructor
    · intro h i
      split at h
      · rename_i h'
        cases i with
        | zero => exact h'.2
        | succ i => rw [co_succ]; exact ih.1 h'.1 i
      · cases h
    · intro h
      rw [if_pos ⟨ih.2 fun i => by rw [← co_succ a l i]; exact h _, h 0⟩]
theorem tr_ext : ∀ {p q : QL}, (∀ i, co p i = co q i) → tr p = tr q
  | [], q, h => by
    have : tr q = [] := tr_nil.2 fun i => (h i).symm
    rw [this]; rfl
  | a :: p, [], h => tr_nil.2 h
  | a :: p, b :: q, h => by
    have h0 : a = b := h 0
    have ih := tr_ext (p := p) (q := q) fun i => by have := h (i + 1); rwa [co_succ, co_succ] at this
    rw [tr_cons, tr_cons, ih, h0]
theorem tr_iff {p q : QL} : tr p = tr q ↔ ∀ i, co p i = co q i :=
  ⟨fun h i => by rw [← co_tr p, ← co_tr q, h], tr_ext⟩
theorem tr_tr (p : QL) : tr (tr p) = tr p := tr_ext (co_tr p)
theorem tr_len : ∀ p : QL, (tr p).length ≤ p.length
  | [] => Nat.le_refl _
  | a :: l => by
    have ih := tr_len l
    rw [tr_cons]
    split
    · simp
    · simp; exact ih
theorem tr_take (p : QL) : p.take (tr p).length = tr p := by
  refine co_ext (by rw [List.length_take]; have := tr_len p; omega) fun i => ?_
  rw [co_tr]
  rcases Nat.lt_or_ge i (tr p).length with h | h
  · unfold co
    rw [List.getD_eq_getElem?_getD, List.getD_eq_getElem?_getD, List.getElem?_take, if_pos h]
  · rw [← co_tr p, co_ge h, co_ge (by rw [List.length_take]; omega)]
/-- the last coefficient that is kept -/
theorem tr_last {p : QL} {n : Nat} (h : ∀ i, n ≤ i → co p i = 0) : (tr p).length ≤ n := by
  rcases Nat.lt_or_ge n (tr p).length with h' | h'
  · exfalso
    have key : ∀ (p : QL) (n : Nat), n < (tr p).length → ∃ i, n ≤ i ∧ co p i ≠ 0 := by
      intro p
      induction p with
      | nil => intro n h; simp [tr] at h
      | cons a l ih =>
        intro n h
        rw [tr_cons] at h
        split at h
        · simp at h
        · rename_i hn
          cases n with
          | zero =>
            rcases Classical.em (tr l = []) with h1 | h1
            · refine ⟨0, Nat.le_refl _, fun e => hn ⟨h1, e⟩⟩
            · obtain ⟨i, h2, h3⟩ := ih 0 (List.length_pos_iff.2 h1)
              exact ⟨i + 1, Nat.zero_le _, by rwa [co_succ]⟩
          | succ n =>
            simp at h
            obtain ⟨i, h2, h3⟩ := ih n h
            exact ⟨i + 1, by omega, by rwa [co_succ]⟩
    obtain ⟨i, h1, h2⟩ := key p n h'
    exact h2 (h i h1)
  · exact h'
theorem tr_ne {p : QL} {n : Nat} (h : (tr p).length = n + 1) : co p n ≠ 0 := by
  intro e
  have := tr_last (p := p) (n := n) fun i hi => by
    rcases Nat.lt_or_ge n i with h' | h'
    · rw [← co_tr, co_ge (by omega)]
    · have : i = n := by omega
      subst this; exact e
  omega

/-! sums -/
def addQ : QL → QL → QL
  | [], q => q
  | a :: p, [] => a :: p
  | a :: p, b :: q => (a + b) :: addQ p q
theorem co_add : ∀ (p q : QL) (i : Nat), co (addQ p q) i = co p i + co q i
  | [], q, i => by rw [addQ, co_nil, Rat.zero_add]
  | a :: p, [], i => by rw [addQ, co_nil, Rat.add_zero]
  | a :: p, b :: q, 0 => rfl
  | a :: p, b :: q, i + 1 => by rw [addQ, co_succ, co_succ, co_succ, co_add p q i]
theorem len_add : ∀ p q : QL, (addQ p q).length = max p.length q.length
  | [], q => by simp [addQ]
  | a :: p, [] => by simp [addQ]
  | a :: p, b :: q => by simp only [addQ, List.length_cons, len_add p q]; omega
def scQ (a : Rat) (p : QL) : QL := p.map (a * ·)
theorem co_sc (a : Rat) : ∀ (p : QL) (i : Nat), co (scQ a p) i = a * co p i
  | [], i => by rw [co_nil, Rat.mul_zero]; rfl
  | b :: p, 0 => rfl
  | b :: p, i + 1 => by
    rw [co_succ, ← co_sc a p i]
    exact co_succ _ _ _
theorem len_sc (a : Rat) (p : QL) : (scQ a p).length = p.length := List.length_map ..
def mulQ : QL → QL → QL
  | [], _ => []
  | a :: p, q => addQ (scQ a q) (0 :: mulQ p q)
theorem co_mul_zero (a : Rat) (p q : QL) : co (mulQ (a :: p) q) 0 = a * co q 0 := by
  rw [mulQ, co_add, co_sc, co_zero, Rat.add_zero]
theorem co_mul_succ (a : Rat) (p q : QL) (i : Nat) : co (mulQ (a :: p) q) (i + 1) = a * co q (i + 1) + co (mulQ p q) i := by
  rw [mulQ, co_add, co_sc, co_succ]
/-- equal coefficients -/
def PE (p q : QL) : Prop := ∀ i, co p i = co q i
theorem PE.symm {p q : QL} (h : PE p q) : PE q p := fun i => (h i).symm
theorem PE.trans {p q r : QL} (h : PE p q) (k : PE q r) : PE p r := fun i => (h i).trans (k i)
theorem PE.tr {p q : QL} (h : PE p q) : tr p = tr q := tr_ext h
theorem PE.of_tr (p : QL) : PE (Gx.tr p) p := co_tr p
theorem add_comm' (p q : QL) : PE (addQ p q) (addQ q p) := fun i => by rw [co_add, co_add, Rat.add_comm]
theorem add_assoc' (p q r : QL) : PE (addQ (addQ p q) r) (addQ p (addQ q r)) := fun i => by simp only [co_add, Rat.add_assoc]
theorem PE.add {p p' q q' : QL} (h : PE p p') (k : PE q q') : PE (addQ p q) (addQ p' q') := fun i => by rw [co_add, co_add, h i, k i]
theorem PE.sc {p p' : QL} (a : Rat) (h : PE p p') : PE (scQ a p) (scQ a p') := fun i => by rw [co_sc, co_sc, h i]
theorem mul_r : ∀ (p : QL) {q q' : QL}, PE q q' → PE (mulQ p q) (mulQ p q')
  | [], q, q', h => fun i => rfl
  | a :: p, q, q', h => fun i => by
    have ih := mul_r p h
    cases i with
    | zero => rw [co_mul_zero, co_mul_zero, h 0]
    | succ i => rw [co_mul_succ, co_mul_succ, h, ih i]
theorem mul_zero' : ∀ {p : QL}, (∀ i, co p i = 0) → ∀ (q : QL) (i : Nat), co (mulQ p q) i = 0
  | [], _, q, i => rfl
  | a :: p, h, q, i => by
    have h0 : a = 0 := h 0
    have ih := mul_zero' (p := p) (fun i => by rw [← co_succ a p i]; exact h _) q
    cases i with
    | zero => rw [co_mul_zero, h0, Rat.zero_mul]
    | succ i => rw [co_mul_succ, h0, Rat.zero_mul, ih, Rat.add_zero]
theorem mul_l : ∀ {p p' : QL}, PE p p' → ∀ (q : QL), PE (mulQ p q) (mulQ p' q)
  | [], p', h, q => fun i => by rw [mul_zero' (p := p') (fun i => (h i).symm) q i]; rfl
  | a :: p, [], h, q => fun i => mul_zero' (p := a :: p) h q i
  | a :: p, b :: p', h, q => fun i => by
    have h0 : a = b := h 0
    have ih := mul_l (p := p) (p' := p') (fun i => by have := h (i + 1); rwa [co_succ, co_succ] at this) q
    cases i with
    | zero => rw [co_mul_zero, co_mul_zero, h0]
    | succ i => rw [co_mul_succ, co_mul_succ, h0, ih i]
theorem PE.mul {p p' q q' : QL} (h : PE p p') (k : PE q q') : PE (mulQ p q) (mulQ p' q') := (mul_l h q).trans (mul_r p' k)
theorem mul_addr : ∀ p q r : QL, PE (mulQ p (addQ q r)) (addQ (mulQ p q) (mulQ p r))
  | [], q, r => fun i => by rw [co_add]; exact (Rat.add_zero 0).symm
  | a :: p, q, r => fun i => by
    have ih := mul_addr p q r
    cases i with
    | zero => rw [co_add, co_mul_zero, co_mul_zero, co_mul_zero, co_add, Rat.mul_add]
    | succ i =>
      rw [co_add, co_mul_succ, co_mul_succ, co_mul_succ, co_add, ih i, co_add, Rat.mul_add]
      simp only [Rat.add_assoc, Rat.add_left_comm]
theorem mul_addl : ∀ p q r : QL, PE (mulQ (addQ p q) r) (addQ (mulQ p r) (mulQ q r))
  | [], q, r => fun i => by rw [co_add]; exact (Rat.zero_add _).symm
  | a :: p, [], r => fun i => by rw [co_add]; exact (Rat.add_zero _).symm
  | a :: p, b :: q, r => fun i => by
    have ih := mul_addl p q r
    rw [addQ]
    cases i with
    | zero => rw [co_add, co_mul_zero, co_mul_zero, co_mul_zero, Rat.add_mul]
    | succ i =>
      rw [co_add, co_mul_succ, co_mul_succ, co_mul_succ, ih i, co_add, Rat.add_mul]
      simp only [Rat.add_assoc, Rat.add_left_comm]
theorem mul_scl (a : Rat) : ∀ p q : QL, PE (mulQ (scQ a p) q) (scQ a (mulQ p q))
  | [], q => fun i => by rw [co_sc]; exact (Rat.mul_zero a).symm
  | b :: p, q => fun i => by
    have ih := mul_scl a p q
    show co (mulQ (a * b :: scQ a p) q) i = _
    rw [co_sc]
    cases i with
    | zero => rw [co_mul_zero, co_mul_zero, Rat.mul_assoc]
    | succ i => rw [co_mul_succ, co_mul_succ, ih i, co_sc, Rat.mul_add, Rat.mul_assoc]
theorem mul_scr (a : Rat) : ∀ p q : QL, PE (mulQ p (scQ a q)) (scQ a (mulQ p q))
  | [], q => fun i => by rw [co_sc]; exact (Rat.mul_zero a).symm
  | b :: p, q => fun i => by
    have ih := mul_scr a p q
    rw [co_sc]
    cases i with
    | zero => rw [co_mul_zero, co_mul_zero, co_sc, rat_mul_left_comm]
    | succ i => rw [co_mul_succ, co_mul_succ, ih i, co_sc, co_sc, Rat.mul_add, rat_mul_left_comm]
theorem mul_shl (p q : QL) : PE (mulQ (0 :: p) q) (0 :: mulQ p q) := fun i => by
  cases i with
  | zero => rw [co_mul_zero, Rat.zero_mul, co_zero]
  | succ i => rw [co_mul_succ, Rat.zero_mul, Rat.zero_add, co_succ]
theorem mul_shr : ∀ p q : QL, PE (mulQ p (0 :: q)) (0 :: mulQ p q)
  | [], q => fun i => by cases i <;> rfl
  | a :: p, q => fun i => by
    have ih := mul_shr p q
    cases i with
    | zero => rw [co_mul_zero, co_zero, Rat.mul_zero, co_zero]
    | succ i =>
      rw [co_mul_succ, co_succ, co_succ, ih i]
      cases i with
      | zero => rw [co_mul_zero, co_zero, Rat.add_zero]
      | succ i => rw [co_succ, co_mul_succ]
theorem mul_nil (p : QL) : PE (mulQ p []) [] := by
  induction p with
  | nil => exact fun i => rfl
  | cons a p ih =>
    intro i
    cases i with
    | zero => rw [co_mul_zero, co_nil, Rat.mul_zero]
    | succ i => rw [co_mul_succ, co_nil, Rat.mul_zero, ih i, Rat.zero_add]; rfl
theorem cons_add (a : Rat) (p : QL) : PE (a :: p) (addQ [a] (0 :: p)) := fun i => by
  rw [co_add]
  cases i with
  | zero => exact (Rat.add_zero a).symm
  | succ i => rw [co_succ, co_succ, co_succ, co_nil, Rat.zero_add]
theorem mul_one_c (a : Rat) (q : QL) : PE (mulQ [a] q) (scQ a q) := fun i => by
  rw [co_sc]
  cases i with
  | zero => exact co_mul_zero _ _ _
  | succ i => rw [co_mul_succ]; exact Rat.add_zero _
theorem mul_c_one (a : Rat) (p : QL) : PE (mulQ p [a]) (scQ a p) := by
  induction p with
  | nil => exact fun i => rfl
  | cons b p ih =>
    intro i
    rw [co_sc]
    cases i with
    | zero => rw [co_mul_zero, co_zero, co_zero, Rat.mul_comm]
    | succ i => rw [co_mul_succ, co_succ, co_nil, Rat.mul_zero, Rat.zero_add, ih i, co_sc, co_succ]
theorem PE.cons {p p' : QL} (a : Rat) (h : PE p p') : PE (a :: p) (a :: p') := fun i => by
  cases i with
  | zero => rfl
  | succ i => rw [co_succ, co_succ, h i]
theorem PE.refl (p : QL) : PE p p := fun _ => rfl
theorem mul_comm' : ∀ p q : QL, PE (mulQ p q) (mulQ q p)
  | [], q => (mul_nil q).symm
  | a :: p, q => by
    have ih := mul_comm' p q
    refine PE.trans (q := addQ (scQ a q) (0 :: mulQ q p)) (PE.add (PE.refl _) (PE.cons 0 ih)) ?_
    refine PE.symm ?_
    refine (mul_r q (cons_add a p)).trans ?_
    refine (mul_addr q [a] (0 :: p)).trans ?_
    exact PE.add (mul_c_one a q) (mul_shr q p)
theorem mul_assoc' : ∀ p q r : QL, PE (mulQ (mulQ p q) r) (mulQ p (mulQ q r))
  | [], q, r => fun i => rfl
  | a :: p, q, r => by
    have ih := mul_assoc' p q r
    refine (mul_addl (scQ a q) (0 :: mulQ p q) r).trans ?_
    exact PE.add (mul_scl a q r) ((mul_shl _ _).trans (PE.cons 0 ih))
theorem len_mul : ∀ (p q : QL), p ≠ [] → q ≠ [] → (mulQ p q).length = p.length + q.length - 1
  | [a], q, _, hq => by
    have := List.length_pos_iff.2 hq
    simp only [mulQ, len_add, len_sc, List.length_cons, List.length_nil]
    omega
  | a :: b :: p, q, _, hq => by
    have ih := len_mul (b :: p) q (by simp) hq
    have := List.length_pos_iff.2 hq
    rw [mulQ, len_add, len_sc, List.length_cons, ih]
    simp only [List.length_cons]
    omega
  | [], q, h, _ => absurd rfl h
/-- one more row of a product -/
theorem mul_snoc (a : Rat) : ∀ (p q : QL) (n : Nat), co (mulQ (p ++ [a]) q) n = co (mulQ p q) n + (if p.length ≤ n then a * co q (n - p.length) else 0)
  | [], q, n => by
    rw [show ([] : QL) ++ [a] = [a] from rfl, mul_one_c a q n, co_sc, if_pos (show ([] : QL).length ≤ n from Nat.zero_le _)]
    exact (Rat.zero_add _).symm
  | b :: p, q, n => by
    have ih := mul_snoc a p q
    rw [List.cons_append]
    cases n with
    | zero => rw [co_mul_zero, co_mul_zero, if_neg (by simp), Rat.add_zero]
    | succ n =>
      rw [co_mul_succ, co_mul_succ, ih n, Rat.add_assoc, List.length_cons]
      congr 2
      by_cases h : p.length ≤ n
      · rw [if_pos h, if_pos (by omega)]; congr 2; omega
      · rw [if_neg h, if_neg (by omega)]

/-! values -/
def evQ (p : QL) (x : Rat) : Rat := p.foldr (fun a v => v * x + a) 0
theorem ev_cons (a : Rat) (p : QL) (x : Rat) : evQ (a :: p) x = evQ p x * x + a := rfl
theorem ev_add (x : Rat) : ∀ p q : QL, evQ (addQ p q) x = evQ p x + evQ q x
  | [], q => (Rat.zero_add _).symm
  | a :: p, [] => (Rat.add_zero _).symm
  | a :: p, b :: q => by
    rw [addQ, ev_cons, ev_cons, ev_cons, ev_add x p q, Rat.add_mul]
    simp only [Rat.add_assoc, Rat.add_left_comm]
theorem ev_sc (a x : Rat) : ∀ p : QL, evQ (scQ a p) x = a * evQ p x
  | [] => (Rat.mul_zero a).symm
  | b :: p => by
    show evQ (a * b :: scQ a p) x = _
    rw [ev_cons, ev_cons, ev_sc a x p, Rat.mul_add, Rat.mul_assoc]
theorem ev_mul (x : Rat) : ∀ p q : QL, evQ (mulQ p q) x = evQ p x * evQ q x
  | [], q => (Rat.zero_mul _).symm
  | a :: p, q => by
    rw [mulQ, ev_add, ev_sc, ev_cons, ev_cons, ev_mul x p q, Rat.add_zero, Rat.add_mul, Rat.mul_assoc, Rat.mul_assoc, Rat.mul_comm (evQ q x) x, Rat.add_comm]
theorem ev_PE (x : Rat) : ∀ {p q : QL}, PE p q → evQ p x = evQ q x := by
  have z : ∀ p : QL, (∀ i, co p i = 0) → evQ p x = 0 := by
    intro p
    induction p with
    | nil => intro _; rfl
    | cons a p ih =>
      intro h
      have h0 : a = 0 := h 0
      rw [ev_cons, ih (fun i => by rw [← co_succ a p i]; exact h _), Rat.zero_mul, h0, Rat.zero_add]
  intro p
  induction p with
  | nil => intro q h; exact (z q fun i => (h i).symm).symm
  | cons a p ih =>
    intro q h
    cases q with
    | nil => exact z _ h
    | cons b q =>
      have h0 : a = b := h 0
      have e := ih (q := q) fun i => by rw [← co_succ a p i, ← co_succ b q i]; exact h (i + 1)
      rw [ev_cons, ev_cons, h0, e]
theorem ev_tr (p : QL) (x : Rat) : evQ (tr p) x = evQ p x := ev_PE x (PE.of_tr p)
/-- the derivative -/
def dQ (p : QL) : QL := (List.range (p.length - 1)).map fun i => ((i + 1 : Nat) : Rat) * co p (i + 1)
theorem co_d (p : QL) (i : Nat) : co (dQ p) i = ((i + 1 : Nat) : Rat) * co p (i + 1) := by
  rcases Nat.lt_or_ge i (p.length - 1) with h | h
  · rw [co_lt (by simpa [dQ] using h)]
    simp [dQ]
  · rw [co_ge (by simpa [dQ] using h), co_ge (p := p) (by omega), Rat.mul_zero]
theorem PE.d {p q : QL} (h : PE p q) : PE (dQ p) (dQ q) := fun i => by rw [co_d, co_d, h]
theorem d_add (p q : QL) : PE (dQ (addQ p q)) (addQ (dQ p) (dQ q)) := fun i => by simp only [co_d, co_add, Rat.mul_add]
theorem d_sc (a : Rat) (p : QL) : PE (dQ (scQ a p)) (scQ a (dQ p)) := fun i => by simp only [co_d, co_sc, rat_mul_left_comm]
/-- the derivative of x p -/
theorem d_sh (p : QL) : PE (dQ (0 :: p)) (addQ p (0 :: dQ p)) := fun i => by
  rw [co_d, co_add, co_succ]
  cases i with
  | zero => rw [co_zero, Rat.add_zero]; exact Rat.one_mul _
  | succ i =>
    rw [co_succ, co_d]
    have : ((i + 1 + 1 : Nat) : Rat) = 1 + ((i + 1 : Nat) : Rat) := by rw [Rat.natCast_add, Rat.add_comm]; rfl
    rw [this, Rat.add_mul, Rat.one_mul]
theorem d_mul : ∀ p q : QL, PE (dQ (mulQ p q)) (addQ (mulQ (dQ p) q) (mulQ p (dQ q)))
  | [], q => fun i => by rw [co_add]; exact (Rat.add_zero _).symm
  | a :: p, q => by
    have ih := d_mul p q
    -- the derivative of the first factor
    have h1 : PE (dQ (a :: p)) (addQ p (0 :: dQ p)) := by
      refine (PE.d (cons_add a p)).trans ((d_add _ _).trans ?_)
      intro i
      rw [co_add, d_sh p i, co_d]
      have : co [a] (i + 1) = 0 := rfl
      rw [this, Rat.mul_zero, Rat.zero_add]
    refine (d_add _ _).trans ?_
    intro i
    have e1 := (PE.add (d_sc a q) (d_sh (mulQ p q))) i
    rw [e1]
    have e2 : co (0 :: dQ (mulQ p q)) i = co (0 :: addQ (mulQ (dQ p) q) (mulQ p (dQ q))) i := PE.cons 0 ih i
    have e3 := (mul_l h1 q).trans ((mul_addl p (0 :: dQ p) q).trans (PE.add (PE.refl _) (mul_shl _ _))) 
    have e4 : co (0 :: addQ (mulQ (dQ p) q) (mulQ p (dQ q))) i = co (0 :: mulQ (dQ p) q) i + co (0 :: mulQ p (dQ q)) i := by
      cases i with
      | zero => exact (Rat.add_zero 0).symm
      | succ i => rw [co_succ, co_succ, co_succ, co_add]
    simp only [co_add] at *
    rw [e2, e4, e3 i, mulQ, co_add, co_sc]
    simp only [co_add, co_sc, Rat.add_assoc, Rat.add_left_comm, Rat.add_comm]
/-- powers -/
def powQ (p : QL) : Nat → QL
  | 0 => [1]
  | n + 1 => mulQ (powQ p n) p
theorem mul_one' (p : QL) : PE (mulQ p [1]) p := fun i => by rw [mul_c_one 1 p i, co_sc, Rat.one_mul]
theorem one_mul' (p : QL) : PE (mulQ [1] p) p := fun i => by rw [mul_one_c 1 p i, co_sc, Rat.one_mul]
theorem pow_add (p : QL) (m : Nat) : ∀ n : Nat, PE (powQ p (m + n)) (mulQ (powQ p m) (powQ p n))
  | 0 => (mul_one' _).symm
  | n + 1 => (mul_l (pow_add p m n) p).trans (mul_assoc' _ _ _)
theorem PE.pow {p q : QL} (h : PE p q) : ∀ n : Nat, PE (powQ p n) (powQ q n)
  | 0 => PE.refl _
  | n + 1 => PE.mul (PE.pow h n) h
end Go.Proofs.Ytpneaknfnlnbcaa.Gx
