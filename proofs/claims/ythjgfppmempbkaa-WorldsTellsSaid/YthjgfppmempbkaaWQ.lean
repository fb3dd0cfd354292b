/-
  Sums over all worlds.
-/
import Derived.Test.YthjgfppmempbkaaWP
namespace Go.Proofs.Ythjgfppmempbkaa.Gx
open Go Go.RowKit Tw B Nt
set_option linter.unusedVariables false
set_option linter.unusedSimpArgs false
def sumN (f : Nat → Rat) : Nat → Rat
  | 0 => 0
  | n + 1 => sumN f n + f n
theorem sumN_congr {f g : Nat → Rat} : ∀ {n : Nat}, (∀ i, i < n → f i = g i) → sumN f n = sumN g n
  | 0, _ => rfl
  | n + 1, h => by rw [sumN, sumN, sumN_congr fun i hi => h i (by omega), h n (by omega)]
theorem sumN_add (f : Nat → Rat) (a : Nat) : ∀ b, sumN f (a + b) = sumN f a + sumN (fun i => f (a + i)) b
  | 0 => by show sumN f a = sumN f a + 0; rw [Rat.add_zero]
  | b + 1 => by
    rw [← Nat.add_assoc]
    show sumN f (a + b) + f (a + b) = sumN f a + (sumN (fun i => f (a + i)) b + f (a + b))
    rw [sumN_add f a b, Rat.add_assoc]
theorem sumN_mul (f : Nat → Rat) (P : Nat) : ∀ A, sumN f (A * P) = sumN (fun d => sumN (fun m => f (d * P + m)) P) A
  | 0 => by rw [Nat.zero_mul]; rfl
  | A + 1 => by rw [Nat.add_mul, Nat.one_mul, sumN_add, sumN_mul f P A]; rfl
theorem sumN_scale (c : Rat) (f : Nat → Rat) : ∀ n, sumN (fun i => c * f i) n = c * sumN f n
  | 0 => by show (0 : Rat) = c * 0; rw [Rat.mul_zero]
  | n + 1 => by rw [sumN, sumN, sumN_scale c f n, Rat.mul_add]
theorem sumN_scale' (c : Rat) (f : Nat → Rat) : ∀ n, sumN (fun i => f i * c) n = sumN f n * c
  | 0 => by show (0 : Rat) = 0 * c; rw [Rat.zero_mul]
  | n + 1 => by rw [sumN, sumN, sumN_scale' c f n, Rat.add_mul]
/-- weights of choices -/
def wgt : List (Int → Rat) → List Int → Rat
  | g :: gs, c :: w => g c * wgt gs w
  | _, _ => 1
def prS : List Blk → List (Int → Rat) → Rat
  | b :: s, g :: gs => sumN (fun d => g (chc b d)) (b.length + 1) * prS s gs
  | _, _ => 1
theorem wn_cons {b : Blk} {s : List Blk} {d m : Nat} (hd : d ≤ b.length) (hm : (m : Int) < prd s) : wn (b :: s) (d * (prd s).toNat + m) = chc b d :: wn s m := by
  obtain ⟨h1, h2⟩ := wn_ok hm
  have hP := prd_pos s
  obtain ⟨p1, p2, p3⟩ := po_chc (b := b) (d := (d : Int)) ⟨by omega, by omega⟩
  refine (wn_inj ?_ ?_).symm
  · show (decide _ && wk s (wn s m)) = true
    rw [h1, Bool.and_true]
    exact decide_eq_true ⟨p2, p3⟩
  · rw [ixW_cons (wk_len h1), p1, h2, Int.natCast_add, Int.natCast_mul, Int.toNat_of_nonneg (by omega)]
theorem sum_wgt : ∀ (s : List Blk) (gs : List (Int → Rat)), gs.length = s.length → sumN (fun n => wgt gs (wn s n)) (prd s).toNat = prS s gs
  | [], [], _ => by
    show (0 : Rat) + 1 = 1
    rw [Rat.zero_add]
  | b :: s, g :: gs, h => by
    have ih := sum_wgt s gs (by simpa using h)
    have hP := prd_pos s
    have e : (prd (b :: s)).toNat = (b.length + 1) * (prd s).toNat := by
      have : prd (b :: s) = (((b.length + 1) * (prd s).toNat : Nat) : Int) := by
        rw [prd, Int.natCast_mul, Int.toNat_of_nonneg (by omega)]; rfl
      omega
    rw [e, sumN_mul]
    have h1 : ∀ d, d < b.length + 1 → sumN (fun m => wgt (g :: gs) (wn (b :: s) (d * (prd s).toNat + m))) (prd s).toNat = g (chc b d) * prS s gs := by
      intro d hd
      rw [← ih, ← sumN_scale]
      refine sumN_congr fun m hm => ?_
      rw [wn_cons (by omega) (by omega)]
      rfl
    rw [sumN_congr h1, sumN_scale']
    rfl
  | [], _ :: _, h => by simp at h
  | _ :: _, [], h => by simp at h
theorem wgt_chq : ∀ (s : List Blk) (w : List Int), wgt (s.map chq) w = wpr s w
  | [], [] => rfl
  | [], _ :: _ => rfl
  | _ :: _, [] => rfl
  | b :: s, c :: w => by
    show chq b c * wgt (s.map chq) w = chq b c * wpr s w
    rw [wgt_chq s w]
theorem qsum_sumN (b : Blk) : ∀ k, k ≤ b.length → sumN (fun d => fq (b.getD d (false, [], []))) k = qsum (b.take k)
  | 0, _ => rfl
  | k + 1, h => by
    rw [sumN, qsum_sumN b k (by omega), take_get b k (false, [], []) (by omega), qsum_snoc]
/-- the choices of a block have probability 1 -/
theorem blk_one (b : Blk) : sumN (fun d => chq b (chc b d)) (b.length + 1) = 1 := by
  have h1 : sumN (fun d => chq b (chc b (d : Int))) b.length = sumN (fun d => fq (b.getD d (false, [], []))) b.length := sumN_congr fun d hd => by
    unfold chq chc
    rw [if_neg (by omega), if_neg (by omega), Int.toNat_natCast]
  have h2 : chq b (chc b (b.length : Int)) = rm b := by
    unfold chq chc
    rw [if_pos (Int.le_refl _), if_pos (by decide)]
  rw [sumN, h1, h2, qsum_sumN b _ (Nat.le_refl _), List.take_length, rm, Rat.sub_eq_add_neg, Rat.add_comm 1, ← Rat.add_assoc, Rat.add_neg_cancel, Rat.zero_add]
theorem prS_one : ∀ s : List Blk, prS s (s.map chq) = 1
  | [] => rfl
  | b :: s => by
    show sumN _ _ * prS s (s.map chq) = 1
    rw [blk_one, prS_one s, Rat.one_mul]
/-- the probabilities of all worlds -/
theorem tot_one (s : List Blk) : sumN (fun n => wpr s (wn s n)) (prd s).toNat = 1 := by
  have := sum_wgt s (s.map chq) (by simp)
  rw [prS_one] at this
  rw [← this]
  exact sumN_congr fun n _ => (wgt_chq s _).symm
/-- the weights that want a choice c at block j -/
def only (g : Int → Rat) (c : Int) (x : Int) : Rat := if x = c then g x else 0
theorem wgt_only : ∀ (s : List Blk) (w : List Int) (j : Nat) (c : Int), j < s.length → w.length = s.length → wgt ((s.map chq).set j (only (chq (s.getD j [])) c)) w = if w.getD j 0 = c then wpr s w else 0
  | b :: s, x :: w, 0, c, _, _ => by
    show only (chq b) c x * wgt (s.map chq) w = if x = c then chq b x * wpr s w else 0
    rw [wgt_chq]
    unfold only
    split
    · rfl
    · rw [Rat.zero_mul]
  | b :: s, x :: w, j + 1, c, hj, hl => by
    show chq b x * wgt ((s.map chq).set j (only (chq (s.getD j [])) c)) w = if w.getD j 0 = c then chq b x * wpr s w else 0
    rw [wgt_only s w j c (by simpa using hj) (by simpa using hl)]
    split
    · rfl
    · rw [Rat.mul_zero]
  | [], _, j, _, hj, _ => by simp at hj
  | _ :: _, [], _, _, _, hl => by simp at hl
theorem sumN_only (f : Nat → Rat) (k : Nat) : ∀ n, k < n → (∀ i, i < n → i ≠ k → f i = 0) → sumN f n = f k
  | 0, h, _ => absurd h (Nat.not_lt_zero _)
  | n + 1, h, hz => by
    rw [sumN]
    by_cases hk : k = n
    · subst hk
      have : sumN f k = 0 := by
        have h0 : ∀ m, m ≤ k → sumN f m = 0 := by
          intro m
          induction m with
          | zero => intro _; rfl
          | succ m ih =>
            intro hm
            rw [sumN, ih (by omega), hz m (by omega) (by omega), Rat.zero_add]
        exact h0 k (Nat.le_refl _)
      rw [this, Rat.zero_add]
    · rw [sumN_only f k n (by omega) fun i hi hne => hz i (by omega) hne, hz n (by omega) (fun e => hk e.symm), Rat.add_zero]
theorem blk_only {b : Blk} {c : Int} (hc : -1 ≤ c ∧ c < (b.length : Int)) : sumN (fun d => only (chq b) c (chc b d)) (b.length + 1) = chq b c := by
  have hp := po_b hc
  have e := chc_po hc
  obtain ⟨k, hk⟩ : ∃ k : Nat, po b c = (k : Int) := ⟨(po b c).toNat, by omega⟩
  rw [hk] at e hp
  rw [sumN_only _ k _ (by omega) fun i hi hne => ?_, e]
  · unfold only; rw [if_pos rfl]
  · unfold only
    rw [if_neg]
    intro e2
    have h1 := (po_chc (b := b) (d := (i : Int)) ⟨by omega, by omega⟩).1
    rw [e2, hk] at h1
    exact hne (by omega)
theorem prS_only : ∀ (s : List Blk) (j : Nat) (c : Int), j < s.length → -1 ≤ c ∧ c < ((s.getD j []).length : Int) → prS s ((s.map chq).set j (only (chq (s.getD j [])) c)) = chq (s.getD j []) c
  | b :: s, 0, c, _, hc => by
    show sumN (fun d => only (chq b) c (chc b d)) (b.length + 1) * prS s (s.map chq) = chq b c
    rw [blk_only (b := b) hc, prS_one, Rat.mul_one]
  | b :: s, j + 1, c, hj, hc => by
    show sumN (fun d => chq b (chc b d)) (b.length + 1) * prS s ((s.map chq).set j (only (chq (s.getD j [])) c)) = chq (s.getD j []) c
    rw [blk_one, prS_only s j c (by simpa using hj) hc, Rat.one_mul]
  | [], j, _, hj, _ => by simp at hj
/-- the probabilities of the worlds with a fixed choice -/
theorem tot_only {s : List Blk} {j : Nat} {c : Int} (hj : j < s.length) (hc : -1 ≤ c ∧ c < ((s.getD j []).length : Int)) : sumN (fun n => if (wn s n).getD j 0 = c then wpr s (wn s n) else 0) (prd s).toNat = chq (s.getD j []) c := by
  rw [← prS_only s j c hj hc, ← sum_wgt s _ (by simp)]
  refine sumN_congr fun n hn => ?_
  rw [wgt_only s _ j c hj (wk_len (wn_ok (by have := prd_pos s; omega)).1)]
end Go.Proofs.Ythjgfppmempbkaa.Gx
