/-
  Plain mathematics of the product of two rows of digits.
-/
import Derived.Test.YtpplleoiehnlkaaNum
namespace Go.Proofs.Ytpplleoiehnlkaa.Nt
set_option linter.unusedVariables false

/-- x times a row, added to a row; the last carry goes into the next place -/
def mulL (x : Int) : List Int → List Int → Int → List Int
  | [], _, _ => []
  | _ :: ws, [], c => c :: ws
  | w :: ws, y :: ys, c => ((x * y + w + c) % 4294967296) :: mulL x ws ys ((x * y + w + c) / 4294967296)
theorem mulL_len (x : Int) (ws ys : List Int) (c : Int) : (mulL x ws ys c).length = ws.length := by
  induction ws generalizing ys c with
  | nil => rfl
  | cons w ws ih => rcases ys with _ | ⟨y, ys⟩ <;> simp [mulL, ih]
theorem mulL_drop (x : Int) (ws ys : List Int) (c : Int) : (mulL x ws ys c).drop (ys.length + 1) = ws.drop (ys.length + 1) := by
  induction ws generalizing ys c with
  | nil => rfl
  | cons w ws ih =>
    rcases ys with _ | ⟨y, ys⟩
    · simp [mulL]
    · simp [mulL]; exact ih ys _
theorem mul_bd {x y : Int} (hx : 0 ≤ x ∧ x < 4294967296) (hy : 0 ≤ y ∧ y < 4294967296) : 0 ≤ x * y ∧ x * y ≤ 18446744065119617025 := by
  have h1 := Int.mul_nonneg hx.1 hy.1
  have h2 := Int.mul_le_mul (a := x) (b := y) (c := 4294967295) (d := 4294967295) (by omega) (by omega) hy.1 (by omega)
  omega
theorem mulL_N (x : Int) (ws ys : List Int) (c : Int) (h : ys.length < ws.length) (hz : ws[ys.length]?.getD 0 = 0) : N (mulL x ws ys c) = N ws + x * N ys + c := by
  induction ws generalizing ys c with
  | nil => simp at h
  | cons w ws ih =>
    rcases ys with _ | ⟨y, ys⟩
    · simp at hz
      subst hz
      simp [mulL, N]
      omega
    · show (x * y + w + c) % 4294967296 + 4294967296 * N (mulL x ws ys ((x * y + w + c) / 4294967296)) = w + 4294967296 * N ws + x * (y + 4294967296 * N ys) + c
      rw [ih ys _ (by simpa using h) (by simpa using hz), Int.mul_add x y, Int.mul_left_comm x]
      omega
theorem mulL_ds {x : Int} (hx : 0 ≤ x ∧ x < 4294967296) (ws ys : List Int) (c : Int) (hw : Ds ws) (hy : Ds ys) (hc : 0 ≤ c ∧ c < 4294967296) : Ds (mulL x ws ys c) := by
  induction ws generalizing ys c with
  | nil => exact Ds.nil
  | cons w ws ih =>
    rcases ys with _ | ⟨y, ys⟩
    · exact Ds.cons hc hw.tail
    · have h1 := mul_bd hx hy.head
      have h2 := hw.head
      exact Ds.cons (by omega) (ih ys _ hw.tail hy.tail (by omega))
theorem mulL_step (x : Int) (r y : List Int) (i j : Nat) (c : Int) (h1 : i + j < r.length) (h2 : j < y.length) :
    mulL x (r.drop (i + j)) (y.drop j) c = ((x * y[j]?.getD 0 + r[i + j]?.getD 0 + c) % 4294967296) :: mulL x (r.drop (i + (j + 1))) (y.drop (j + 1)) ((x * y[j]?.getD 0 + r[i + j]?.getD 0 + c) / 4294967296) := by
  rw [drop_cons h1, drop_cons h2, mulL, Nat.add_assoc]
theorem mulL_last (x : Int) (r y : List Int) (i : Nat) (c : Int) (h1 : i + y.length < r.length) :
    mulL x (r.drop (i + y.length)) (y.drop y.length) c = c :: r.drop (i + y.length + 1) := by
  rw [drop_cons h1, List.drop_length, mulL]
/-- a store at the border between what is new and what is old -/
theorem set_border {p r : List Int} {k : Nat} (hp : p.length = k) (hk : k < r.length) (x : Int) : (p ++ r.drop k).set k x = (p ++ [x]) ++ r.drop (k + 1) := by
  rw [List.set_append_right _ _ (by omega), hp, Nat.sub_self, drop_cons hk, List.set_cons_zero, List.append_assoc]; rfl
theorem at_border {p r : List Int} {k : Nat} (hp : p.length = k) (hk : k < r.length) : (p ++ r.drop k)[k]?.getD 0 = r[k]?.getD 0 := by
  rw [List.getElem?_append_right (by omega), hp, Nat.sub_self, drop_cons hk]; simp
/-- one row of the product -/
theorem mul_row (r x y : List Int) (i : Nat) (hi : i < x.length) (hr : r.length = x.length + y.length) (hz : r.drop (i + y.length) = List.replicate (x.length - i) 0) (hN : N r = N (x.take i) * N y) :
    N (r.take i ++ mulL (x[i]?.getD 0) (r.drop i) y 0) = N (x.take (i + 1)) * N y ∧ (r.take i ++ mulL (x[i]?.getD 0) (r.drop i) y 0).length = x.length + y.length ∧
    (r.take i ++ mulL (x[i]?.getD 0) (r.drop i) y 0).drop (i + 1 + y.length) = List.replicate (x.length - (i + 1)) 0 := by
  have hl : (r.take i).length = i := by simp; omega
  have z0 : (r.drop i)[y.length]?.getD 0 = 0 := by
    have := congrArg (fun l => l[0]?.getD (0 : Int)) hz
    simp only [List.getElem?_drop] at this ⊢
    rw [Nat.add_zero] at this
    rw [this]
    simp [show 0 < x.length - i by omega]
  refine ⟨?_, ?_, ?_⟩
  · rw [N_app, hl, mulL_N _ _ _ _ (by simp; omega) z0, take_snoc hi, N_app]
    have e := take_drop_N r i (by omega)
    rw [hN] at e
    have hl2 : (x.take i).length = i := by simp; omega
    rw [hl2]
    simp only [N, Int.mul_zero, Int.add_zero]
    rw [Int.mul_add, ← Int.add_assoc, ← e, Int.add_mul, Int.mul_assoc]
  · simp [mulL_len]; omega
  · rw [List.drop_append, List.drop_eq_nil_of_le (by omega), hl, List.nil_append, show i + 1 + y.length - i = y.length + 1 by omega, mulL_drop, List.drop_drop, show i + (y.length + 1) = (i + y.length) + 1 by omega, ← List.drop_drop, hz]
    obtain ⟨m, hm⟩ : ∃ m, x.length - i = m + 1 := ⟨x.length - i - 1, by omega⟩
    rw [hm, show x.length - (i + 1) = m by omega, List.replicate_succ]; rfl
end Go.Proofs.Ytpplleoiehnlkaa.Nt
