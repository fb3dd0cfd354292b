/-
  Relations: when a relation is valid, and what an insertion does to that: plain theory.
-/
import Derived.Test.YtnbeehcdnbanfaaGreatRA
namespace Go.Proofs.YtnbeehcdnbanfaaGreat.Gx
open Go Go.RowKit Tw B Nt
set_option linter.unusedVariables false
set_option linter.unusedSimpArgs false
theorem sgQ_lt {q : Rat} : sgQ q < 0 ↔ q < 0 := by
 unfold sgQ
 rw [Int.sign_neg_iff]
 have h := Rat.num_nonneg (q := q)
 constructor
 ·intro h1; exact Rat.not_le.1 fun h2 => by have := h.2 h2; omega
 ·intro h1; exact Int.not_le.1 fun h2 => Rat.not_le.2 h1 (h.1 h2)
def sumL (l : List Tup) : Rat := qsum (l.map (·.2))
def srtT (l : List Tup) : Prop := l.Pairwise fun a b => cT a.1 b.1 < 0
theorem qsum_cons (f : fT.den) (l : List fT.den) : qsum (f :: l) = fq f + qsum l := by
 have h : ∀ (l : List fT.den) (a b : Rat), l.foldl (fun a f => a + fq f) (a + b) = a + l.foldl (fun a f => a + fq f) b := by
  intro l
  induction l with
  | nil => intro a b; rfl
  | cons x l ih => intro a b; rw [List.foldl_cons, List.foldl_cons, Rat.add_assoc, ih]
 unfold qsum
 rw [List.foldl_cons, Rat.add_comm 0, h]
theorem sumL_cons (t : Tup) (l : List Tup) : sumL (t :: l) = fq t.2 + sumL l := by
 unfold sumL
 rw [List.map_cons, qsum_cons]
theorem sumL_nil : sumL [] = 0 := rfl
theorem sumL_nn {l : List Tup} (h : ∀ t ∈ l, 0 ≤ fq t.2) : 0 ≤ sumL l := by
 induction l with
 | nil => rw [sumL_nil]; grind
 | cons x l ih =>
  rw [sumL_cons]
  have := h x List.mem_cons_self
  have := ih fun t ht => h t (List.mem_cons_of_mem _ ht)
  grind
theorem getD_mem' {α : Type} {l : List α} {i : Nat} (d : α) (h : i < l.length) : l.getD i d ∈ l := by
 rw [List.getD_eq_getElem?_getD, List.getElem?_eq_getElem h]
 exact List.getElem_mem h
end Go.Proofs.YtnbeehcdnbanfaaGreat.Gx
