/-
  Spaces of blocks and their worlds, in plain terms.
-/
import Derived.Test.YthjgfppmempbkaaD8
namespace Go.Proofs.Ythjgfppmempbkaa.Gx
open Go Go.RowKit Tw B Nt
set_option linter.unusedVariables false
set_option linter.unusedSimpArgs false
abbrev Blk := List (Bool × List Int × List Int)
/-- what is left of a block -/
def rm (b : Blk) : Rat := 1 - qsum b
def okB (b : Blk) : Bool := decide (b.length ≤ 16) && (b.all fun f => decide (0 ≤ fq f)) && decide (0 ≤ rm b)
def vld (s : List Blk) : Bool := decide (s.length ≤ 4096) && s.all okB
def prd : List Blk → Int
  | [] => 1
  | b :: s => ((b.length : Int) + 1) * prd s
def cnt (s : List Blk) : Int := if vld s then prd s else 0
def wk : List Blk → List Int → Bool
  | [], [] => true
  | b :: s, c :: w => decide (-1 ≤ c ∧ c < (b.length : Int)) && wk s w
  | _, _ => false
def cont (s : List Blk) (w : List Int) : Bool := wk s w && vld s
/-- the probability of a choice -/
def chq (b : Blk) (c : Int) : Rat := if c < 0 then rm b else fq (b.getD c.toNat (false, [], []))
def wpr : List Blk → List Int → Rat
  | b :: s, c :: w => chq b c * wpr s w
  | _, _ => 1
/-- the choice at a position -/
def chc (b : Blk) (d : Int) : Int := if d ≥ (b.length : Int) then -1 else d
def fst (s : List Blk) : List Int := s.map fun b => chc b 0
def nxt : List Blk → List Int → Option (List Int)
  | b :: s, c :: w => match nxt s w with
    | some v => some (c :: v)
    | none => if c ≥ 0 then some (chc b (c + 1) :: fst s) else none
  | _, _ => none
/-- the position of a choice -/
def po (b : Blk) (c : Int) : Int := if c < 0 then (b.length : Int) else c
def ixF : List Blk → List Int → Int → Int
  | b :: s, c :: w, a => ixF s w (a * ((b.length : Int) + 1) + po b c)
  | _, _, a => a
def ixW (s : List Blk) (w : List Int) : Int := ixF s w 0
def atW : List Blk → Int → List Int × Int
  | [], n => ([], n)
  | b :: s, n => (chc b ((atW s n).2 % ((b.length : Int) + 1)) :: (atW s n).1, (atW s n).2 / ((b.length : Int) + 1))
theorem wk_len : ∀ {s : List Blk} {w : List Int}, wk s w = true → w.length = s.length
  | [], [], _ => rfl
  | b :: s, c :: w, h => by
    rw [wk, Bool.and_eq_true] at h
    rw [List.length_cons, List.length_cons, wk_len h.2]
  | [], c :: w, h => by cases h
  | b :: s, [], h => by cases h
theorem wk_iff {s : List Blk} {w : List Int} : wk s w = true ↔ w.length = s.length ∧ ∀ i, i < w.length → -1 ≤ w.getD i 0 ∧ w.getD i 0 < ((s.getD i []).length : Int) := by
  induction s generalizing w with
  | nil => cases w with
    | nil => simp [wk]
    | cons c w => simp [wk]
  | cons b s ih => cases w with
    | nil => simp [wk]
    | cons c w =>
      rw [wk, Bool.and_eq_true, decide_eq_true_eq, ih]
      constructor
      · rintro ⟨h1, h2, h3⟩
        refine ⟨by simp [h2], fun i hi => ?_⟩
        cases i with
        | zero => exact h1
        | succ i => exact h3 i (by simpa using hi)
      · rintro ⟨h1, h2⟩
        exact ⟨h2 0 (by simp), by simpa using h1, fun i hi => h2 (i + 1) (by simpa using hi)⟩
theorem prd_pos : ∀ s : List Blk, 1 ≤ prd s
  | [] => Int.le_refl _
  | b :: s => by
    have := prd_pos s
    have h := Int.mul_le_mul (show (1 : Int) ≤ (b.length : Int) + 1 by omega) this (by decide) (by omega)
    rw [prd]; omega
theorem prd_app (s t : List Blk) : prd (s ++ t) = prd s * prd t := by
  induction s with
  | nil => rw [List.nil_append, prd, Int.one_mul]
  | cons b s ih => rw [List.cons_append, prd, prd, ih, Int.mul_assoc]
theorem prd_snoc (s : List Blk) (b : Blk) : prd (s ++ [b]) = prd s * ((b.length : Int) + 1) := by
  rw [prd_app]; show _ * (((b.length : Int) + 1) * 1) = _; rw [Int.mul_one]
theorem wpr_snoc : ∀ {s : List Blk} {w : List Int} (b : Blk) (c : Int), w.length = s.length → wpr (s ++ [b]) (w ++ [c]) = wpr s w * chq b c
  | [], [], b, c, _ => by
    show chq b c * 1 = 1 * chq b c
    rw [Rat.mul_one, Rat.one_mul]
  | b' :: s, c' :: w, b, c, h => by
    show chq b' c' * wpr (s ++ [b]) (w ++ [c]) = chq b' c' * wpr s w * chq b c
    rw [wpr_snoc b c (by simpa using h), Rat.mul_assoc]
  | [], _ :: _, _, _, h => by simp at h
  | _ :: _, [], _, _, h => by simp at h
theorem ixF_snoc : ∀ {s : List Blk} {w : List Int} (b : Blk) (c : Int) (a : Int), w.length = s.length → ixF (s ++ [b]) (w ++ [c]) a = ixF s w a * ((b.length : Int) + 1) + po b c
  | [], [], b, c, a, _ => rfl
  | b' :: s, c' :: w, b, c, a, h => by
    show ixF (s ++ [b]) (w ++ [c]) _ = ixF s w _ * _ + _
    exact ixF_snoc b c _ (by simpa using h)
  | [], _ :: _, _, _, _, h => by simp at h
  | _ :: _, [], _, _, _, h => by simp at h
theorem ixF_lin : ∀ {s : List Blk} {w : List Int} (a : Int), w.length = s.length → ixF s w a = a * prd s + ixF s w 0
  | [], [], a, _ => by show a = a * 1 + 0; omega
  | b :: s, c :: w, a, h => by
    have h' : w.length = s.length := by simpa using h
    show ixF s w (a * ((b.length : Int) + 1) + po b c) = a * prd (b :: s) + ixF s w (0 * ((b.length : Int) + 1) + po b c)
    rw [ixF_lin _ h', ixF_lin (0 * ((b.length : Int) + 1) + po b c) h', prd, Int.zero_mul, Int.zero_add, Int.add_mul, Int.mul_assoc, Int.add_assoc]
  | [], _ :: _, _, h => by simp at h
  | _ :: _, [], _, h => by simp at h
theorem po_b {b : Blk} {c : Int} (h : -1 ≤ c ∧ c < (b.length : Int)) : 0 ≤ po b c ∧ po b c ≤ (b.length : Int) := by
  unfold po
  split <;> omega
theorem chc_po {b : Blk} {c : Int} (h : -1 ≤ c ∧ c < (b.length : Int)) : chc b (po b c) = c := by
  unfold chc po
  split
  · rw [if_pos (Int.le_refl _)]; omega
  · rw [if_neg (by omega)]
theorem po_chc {b : Blk} {d : Int} (h : 0 ≤ d ∧ d ≤ (b.length : Int)) : po b (chc b d) = d ∧ -1 ≤ chc b d ∧ chc b d < (b.length : Int) := by
  unfold chc po
  split
  · rw [if_pos (by decide)]; omega
  · rw [if_neg (by omega)]; omega
theorem ixW_b : ∀ {s : List Blk} {w : List Int}, wk s w = true → 0 ≤ ixW s w ∧ ixW s w < prd s
  | [], [], _ => by decide
  | b :: s, c :: w, h => by
    rw [wk, Bool.and_eq_true, decide_eq_true_eq] at h
    obtain ⟨h1, h2⟩ := h
    have ih := ixW_b h2
    have hp := po_b h1
    have hl := wk_len h2
    have e : ixW (b :: s) (c :: w) = po b c * prd s + ixW s w := by
      show ixF s w (0 * ((b.length : Int) + 1) + po b c) = _
      rw [ixF_lin _ hl, Int.zero_mul, Int.zero_add]; rfl
    have hP := prd_pos s
    have q1 := Int.mul_nonneg hp.1 (show 0 ≤ prd s by omega)
    have q2 := Int.mul_le_mul_of_nonneg_right hp.2 (show 0 ≤ prd s by omega)
    rw [e, prd, Int.add_mul, Int.one_mul]
    omega
  | [], c :: w, h => by cases h
  | b :: s, [], h => by cases h
theorem emod_mul2 (n L : Int) {P : Int} (hP : 0 ≤ P) : n % (P * L) = n / P % L * P + n % P := by
  rw [Int.emod_def, Int.emod_def, Int.emod_def, ← Int.ediv_ediv_of_nonneg hP, Int.sub_mul, Int.mul_comm P L, Int.mul_assoc L P, Int.mul_comm P (n / P / L), ← Int.mul_assoc L, Int.mul_comm P (n / P)]
  omega
/-- the digits of a number -/
theorem atW_ok : ∀ (s : List Blk) (n : Int), 0 ≤ n → wk s (atW s n).1 = true ∧ (atW s n).2 = n / prd s ∧ ixW s (atW s n).1 = n % prd s
  | [], n, h => by
    refine ⟨rfl, ?_, ?_⟩
    · show n = n / 1; omega
    · show (0 : Int) = n % 1; omega
  | b :: s, n, h => by
    obtain ⟨i1, i2, i3⟩ := atW_ok s n h
    have hP := prd_pos s
    have hL : (0 : Int) < (b.length : Int) + 1 := by omega
    have hr0 : 0 ≤ (atW s n).2 := by rw [i2]; exact Int.ediv_nonneg h (by omega)
    have hm := Int.emod_nonneg (atW s n).2 (show (b.length : Int) + 1 ≠ 0 by omega)
    have hm2 := Int.emod_lt_of_pos (atW s n).2 hL
    obtain ⟨p1, p2, p3⟩ := po_chc (b := b) (d := (atW s n).2 % ((b.length : Int) + 1)) ⟨hm, by omega⟩
    refine ⟨?_, ?_, ?_⟩
    · show (decide (_ ∧ _) && wk s (atW s n).1) = true
      rw [i1, Bool.and_true]
      exact decide_eq_true ⟨p2, p3⟩
    · show (atW s n).2 / ((b.length : Int) + 1) = n / prd (b :: s)
      rw [i2, Int.ediv_ediv_of_nonneg (by omega), prd, Int.mul_comm (prd s)]
    · show ixF s (atW s n).1 (0 * ((b.length : Int) + 1) + po b _) = _
      rw [ixF_lin _ (wk_len i1), p1, Int.zero_mul, Int.zero_add]
      show _ * prd s + ixW s (atW s n).1 = _
      rw [i3, i2, prd, Int.mul_comm ((b.length : Int) + 1), emod_mul2 n _ (show 0 ≤ prd s by omega)]
theorem ixW_cons {b : Blk} {c : Int} {s : List Blk} {w : List Int} (hl : w.length = s.length) : ixW (b :: s) (c :: w) = po b c * prd s + ixW s w := by
  show ixF s w (0 * ((b.length : Int) + 1) + po b c) = _
  rw [ixF_lin _ hl, Int.zero_mul, Int.zero_add]; rfl
/-- a world has the number of its digits -/
theorem atW_ix : ∀ {s : List Blk} {w : List Int}, wk s w = true → ∀ k : Int, 0 ≤ k → atW s (k * prd s + ixW s w) = (w, k)
  | [], [], _, k, _ => by
    show ([], k * 1 + 0) = _
    rw [Int.mul_one, Int.add_zero]
  | b :: s, c :: w, h, k, hk => by
    rw [wk, Bool.and_eq_true, decide_eq_true_eq] at h
    obtain ⟨h1, h2⟩ := h
    have hp := po_b h1
    have hL : (0 : Int) < (b.length : Int) + 1 := by omega
    have hkL : 0 ≤ k * ((b.length : Int) + 1) := Int.mul_nonneg hk (by omega)
    have e : k * prd (b :: s) + ixW (b :: s) (c :: w) = (k * ((b.length : Int) + 1) + po b c) * prd s + ixW s w := by
      rw [ixW_cons (wk_len h2), prd, ← Int.mul_assoc, Int.add_mul (k * ((b.length : Int) + 1)), Int.add_assoc]
    have ih := atW_ix h2 (k * ((b.length : Int) + 1) + po b c) (by omega)
    rw [e]
    show (chc b ((atW s _).2 % _) :: (atW s _).1, (atW s _).2 / _) = _
    rw [ih]
    dsimp only
    have q1 : (k * ((b.length : Int) + 1) + po b c) % ((b.length : Int) + 1) = po b c := by
      rw [Int.add_comm, Int.add_mul_emod_self_right, Int.emod_eq_of_lt hp.1 (by omega)]
    have q2 : (k * ((b.length : Int) + 1) + po b c) / ((b.length : Int) + 1) = k := by
      rw [Int.add_comm, Int.add_mul_ediv_right _ _ (by omega), Int.ediv_eq_zero_of_lt hp.1 (by omega), Int.zero_add]
    rw [q1, q2, chc_po h1]
  | [], c :: w, h, _, _ => by cases h
  | b :: s, [], h, _, _ => by cases h
theorem fst_ok : ∀ s : List Blk, wk s (fst s) = true ∧ ixW s (fst s) = 0
  | [] => ⟨rfl, rfl⟩
  | b :: s => by
    obtain ⟨h1, h2⟩ := fst_ok s
    obtain ⟨p1, p2, p3⟩ := po_chc (b := b) (d := 0) ⟨Int.le_refl _, by omega⟩
    refine ⟨?_, ?_⟩
    · show (decide _ && wk s (fst s)) = true
      rw [h1, Bool.and_true]
      exact decide_eq_true ⟨p2, p3⟩
    · show ixW (b :: s) (chc b 0 :: fst s) = 0
      rw [ixW_cons (wk_len h1), p1, h2, Int.zero_mul]; rfl
/-- the next world has the next number -/
theorem nxt_ok : ∀ {s : List Blk} {w : List Int}, wk s w = true → (∀ v, nxt s w = some v → wk s v = true ∧ ixW s v = ixW s w + 1) ∧ (nxt s w = none → ixW s w + 1 = prd s)
  | [], [], _ => ⟨(fun v h => by cases h), fun _ => rfl⟩
  | b :: s, c :: w, h => by
    rw [wk, Bool.and_eq_true, decide_eq_true_eq] at h
    obtain ⟨h1, h2⟩ := h
    obtain ⟨i1, i2⟩ := nxt_ok h2
    have hl := wk_len h2
    rw [nxt, ixW_cons hl]
    cases hn : nxt s w with
    | some v =>
      obtain ⟨j1, j2⟩ := i1 v hn
      refine ⟨fun v' h => ?_, fun h => by cases h⟩
      cases h
      refine ⟨?_, ?_⟩
      · show (decide _ && wk s v) = true
        rw [j1, Bool.and_true]
        exact decide_eq_true h1
      · rw [ixW_cons (wk_len j1), j2, Int.add_assoc]
    | none =>
      have i2 := i2 hn
      dsimp only
      by_cases hc : c ≥ 0
      · rw [if_pos hc]
        refine ⟨fun v' h => ?_, fun h => by cases h⟩
        cases h
        obtain ⟨f1, f2⟩ := fst_ok s
        obtain ⟨p1, p2, p3⟩ := po_chc (b := b) (d := c + 1) ⟨by omega, by omega⟩
        have hpo : po b c = c := by unfold po; rw [if_neg (by omega)]
        refine ⟨?_, ?_⟩
        · show (decide _ && wk s (fst s)) = true
          rw [f1, Bool.and_true]
          exact decide_eq_true ⟨p2, p3⟩
        · rw [ixW_cons (wk_len f1), p1, f2, hpo, Int.add_mul]; omega
      · rw [if_neg hc]
        refine ⟨(fun v' h => by cases h), fun _ => ?_⟩
        have hpo : po b c = (b.length : Int) := by unfold po; rw [if_pos (by omega)]
        rw [hpo, prd, Int.add_mul]; omega
  | [], c :: w, h => by cases h
  | b :: s, [], h => by cases h
theorem at_fst (s : List Blk) : (atW s 0).1 = fst s := by
  obtain ⟨h1, h2⟩ := fst_ok s
  have := atW_ix h1 0 (Int.le_refl _)
  rw [Int.zero_mul, Int.zero_add, h2] at this
  rw [this]
/-- world number n -/
def wn (s : List Blk) (n : Nat) : List Int := (atW s (n : Int)).1
theorem wn_ok {s : List Blk} {n : Nat} (h : (n : Int) < prd s) : wk s (wn s n) = true ∧ ixW s (wn s n) = (n : Int) := by
  obtain ⟨h1, h2, h3⟩ := atW_ok s (n : Int) (by omega)
  exact ⟨h1, by rw [wn, h3, Int.emod_eq_of_lt (by omega) h]⟩
theorem wn_inj {s : List Blk} {w : List Int} (h : wk s w = true) {n : Nat} (e : ixW s w = (n : Int)) : w = wn s n := by
  have := atW_ix h 0 (Int.le_refl _)
  rw [Int.zero_mul, Int.zero_add, e] at this
  rw [wn, this]
theorem nxt_wn {s : List Blk} {n : Nat} (h : (n : Int) < prd s) : nxt s (wn s n) = if (n : Int) + 1 < prd s then some (wn s (n + 1)) else none := by
  obtain ⟨h1, h2⟩ := wn_ok h
  obtain ⟨i1, i2⟩ := nxt_ok h1
  cases hn : nxt s (wn s n) with
  | some v =>
    obtain ⟨j1, j2⟩ := i1 v hn
    have hb := ixW_b j1
    rw [if_pos (by omega)]
    rw [wn_inj j1 (n := n + 1) (by omega)]
  | none =>
    have := i2 hn
    rw [if_neg (by omega)]
end Go.Proofs.Ythjgfppmempbkaa.Gx
