/-
  Plain mathematics of decimal texts, and of scaling a row of digits.
-/
import Derived.Test.YtpplleoiehnlkaaMulPlain
namespace Go.Proofs.Ytpplleoiehnlkaa.Nt
set_option linter.unusedVariables false

/-- the number that decimal digits denote, least first -/
def V10 : List Int → Int
  | [] => 0
  | d :: l => d + 10 * V10 l
def D10 (l : List Int) : Prop := ∀ d ∈ l, 0 ≤ d ∧ d < 10
theorem D10.head {d : Int} {l : List Int} (h : D10 (d :: l)) : 0 ≤ d ∧ d < 10 := h d (by simp)
theorem D10.tail {d : Int} {l : List Int} (h : D10 (d :: l)) : D10 l := fun x hx => h x (by simp [hx])
theorem V10_nonneg {l : List Int} (h : D10 l) : 0 ≤ V10 l := by
  induction l with
  | nil => simp [V10]
  | cons d l ih => have := ih h.tail; have := h.head; rw [V10]; omega
def C10 (l : List Int) : Prop := D10 l ∧ l.getLast? ≠ some 0
theorem C10.tail {d : Int} {l : List Int} (h : C10 (d :: l)) : C10 l := by
  refine ⟨h.1.tail, ?_⟩
  intro e
  apply h.2
  rw [List.getLast?_cons, e]
  rfl
theorem C10.pos {l : List Int} (h : C10 l) (hne : l ≠ []) : 0 < V10 l := by
  induction l with
  | nil => exact absurd rfl hne
  | cons d l ih =>
    rw [V10]
    have hd := h.1.head
    rcases l with _ | ⟨e, l⟩
    · have : d ≠ 0 := by intro e; subst e; exact h.2 rfl
      simp [V10]; omega
    · have := ih h.tail (by simp)
      omega
theorem C10.zero {l : List Int} (h : C10 l) : V10 l = 0 ↔ l = [] := by
  constructor
  · intro e
    rcases l with _ | ⟨d, l⟩
    · rfl
    · have := h.pos (by simp); omega
  · rintro rfl; rfl
theorem C10.inj {l m : List Int} (hl : C10 l) (hm : C10 m) (e : V10 l = V10 m) : l = m := by
  induction l generalizing m with
  | nil => exact ((hm.zero).1 e.symm).symm
  | cons d l ih =>
    rcases m with _ | ⟨c, m⟩
    · exact (hl.zero).1 e
    · rw [V10, V10] at e
      have h1 := hl.1.head
      have h2 := hm.1.head
      have h3 : V10 l = V10 m := by omega
      have h4 : d = c := by omega
      rw [h4, ih hl.tail hm.tail h3]
/-- the text of decimal digits, first digit first -/
def decB (l : List Int) : List UInt8 := l.reverse.map fun d => UInt8.ofNat (d + 48).toNat
def decS (l : List Int) : ByteArray := ⟨(decB l).toArray⟩
/-- s is the text of n -/
def IsDec (s : ByteArray) (n : Int) : Prop := (n = 0 ∧ s = ⟨#[48]⟩) ∨ (0 < n ∧ ∃ l, C10 l ∧ V10 l = n ∧ s = decS l)
theorem IsDec.unique {s t : ByteArray} {n : Int} (h : IsDec s n) (k : IsDec t n) : s = t := by
  rcases h with ⟨h1, rfl⟩ | ⟨h1, l, h2, h3, rfl⟩
  · rcases k with ⟨k1, rfl⟩ | ⟨k1, _⟩
    · rfl
    · omega
  · rcases k with ⟨k1, rfl⟩ | ⟨k1, m, k2, k3, rfl⟩
    · omega
    · rw [h2.inj k2 (h3.trans k3.symm)]

/-- a row times a digit, plus a digit -/
def saL (s : Int) : List Int → Int → List Int
  | [], _ => []
  | d :: l, c => ((d * s + c) % 4294967296) :: saL s l ((d * s + c) / 4294967296)
def saC (s : Int) : List Int → Int → Int
  | [], c => c
  | d :: l, c => saC s l ((d * s + c) / 4294967296)
theorem saL_len (s : Int) (l : List Int) (c : Int) : (saL s l c).length = l.length := by
  induction l generalizing c with
  | nil => rfl
  | cons d l ih => simp [saL, ih]
theorem saL_N (s : Int) (l : List Int) (c : Int) : N (saL s l c) + Bp l.length * saC s l c = N l * s + c := by
  induction l generalizing c with
  | nil => simp [saL, saC, N, Bp]
  | cons d l ih =>
    show (d * s + c) % 4294967296 + 4294967296 * N (saL s l ((d * s + c) / 4294967296)) + 4294967296 * Bp l.length * saC s l ((d * s + c) / 4294967296) = (d + 4294967296 * N l) * s + c
    have := ih ((d * s + c) / 4294967296)
    rw [Int.add_mul, Int.mul_assoc, Int.mul_assoc]
    omega
theorem saL_ds {s : Int} (hs : 0 ≤ s ∧ s < 4294967296) (l : List Int) (c : Int) (hl : Ds l) (hc : 0 ≤ c ∧ c < 4294967296) : Ds (saL s l c) ∧ 0 ≤ saC s l c ∧ saC s l c < 4294967296 := by
  induction l generalizing c with
  | nil => exact ⟨Ds.nil, hc⟩
  | cons d l ih =>
    have h := mul_bd hl.head hs
    have i := ih ((d * s + c) / 4294967296) hl.tail (by omega)
    exact ⟨Ds.cons (by omega) i.1, i.2⟩
theorem saL_step (s : Int) (x : List Int) (k : Nat) (c : Int) (h : k < x.length) :
    saL s (x.drop k) c = ((x[k]?.getD 0 * s + c) % 4294967296) :: saL s (x.drop (k + 1)) ((x[k]?.getD 0 * s + c) / 4294967296) ∧ saC s (x.drop k) c = saC s (x.drop (k + 1)) ((x[k]?.getD 0 * s + c) / 4294967296) := by
  rw [drop_cons h, saL, saC]
  exact ⟨rfl, rfl⟩

/-- decimal digits read from the first on -/
def dval (l : List UInt8) : Int := l.foldl (fun n c => n * 10 + ((c.toNat : Int) - 48)) 0
theorem dval_snoc (l : List UInt8) (c : UInt8) : dval (l ++ [c]) = dval l * 10 + ((c.toNat : Int) - 48) := by
  rw [dval, List.foldl_append]; rfl
/-- a digit -/
def isD (c : UInt8) : Bool := decide (48 ≤ (c.toNat : Int)) && decide ((c.toNat : Int) ≤ 57)
def p10 : Nat → Int
  | 0 => 1
  | n + 1 => 10 * p10 n
theorem p10_pos (n : Nat) : 1 ≤ p10 n := by
  induction n with
  | zero => decide
  | succ n ih => rw [p10]; omega
theorem p10_mono {a b : Nat} (h : a ≤ b) : p10 a ≤ p10 b := by
  induction b with
  | zero =>
    obtain rfl : a = 0 := by omega
    exact Int.le_refl _
  | succ b ih =>
    rcases Nat.lt_or_ge a (b + 1) with h1 | h1
    · have := ih (by omega); have := p10_pos b; rw [p10]; omega
    · obtain rfl : a = b + 1 := by omega
      exact Int.le_refl _
theorem snoc_ind {α : Type} {P : List α → Prop} (h0 : P []) (h1 : ∀ l a, P l → P (l ++ [a])) (l : List α) : P l := by
  have : ∀ r : List α, P r.reverse := by
    intro r
    induction r with
    | nil => exact h0
    | cons a r ih => rw [List.reverse_cons]; exact h1 _ _ ih
  have := this l.reverse
  rwa [List.reverse_reverse] at this
/-- a piece of a text: its digits after those before it -/
theorem dval_app (l m : List UInt8) : dval (l ++ m) = dval l * p10 m.length + dval m := by
  refine snoc_ind (P := fun m => dval (l ++ m) = dval l * p10 m.length + dval m) ?_ ?_ m
  · simp [dval, p10]
  · intro m c ih
    rw [← List.append_assoc, dval_snoc, ih, dval_snoc, List.length_append, List.length_singleton, p10, Int.add_mul, Int.mul_assoc, Int.mul_comm (p10 m.length) 10]
    omega
theorem dval_bd (l : List UInt8) (h : l.all isD = true) : 0 ≤ dval l ∧ dval l < p10 l.length := by
  revert h
  refine snoc_ind (P := fun l => l.all isD = true → 0 ≤ dval l ∧ dval l < p10 l.length) ?_ ?_ l
  · intro _; simp [dval, p10]
  · intro m c ih h
    rw [List.all_append, Bool.and_eq_true] at h
    have i := ih h.1
    have hc : 48 ≤ (c.toNat : Int) ∧ (c.toNat : Int) ≤ 57 := by
      have := h.2
      simp [isD] at this
      omega
    rw [dval_snoc, List.length_append, List.length_singleton, p10]
    omega
end Go.Proofs.Ytpplleoiehnlkaa.Nt
