/-
  Relations: what an insertion does: plain theory.
-/
import Derived.Test.YtnbeehcdnbanfaaGreatV3
namespace Go.Proofs.YtnbeehcdnbanfaaGreat.Gx
open Go Go.RowKit Tw B Nt
set_option linter.unusedVariables false
set_option linter.unusedSimpArgs false
theorem cI_rg (a b : Int) : cI a b = -1 ∨ cI a b = 0 ∨ cI a b = 1 := by
 unfold cI; repeat' split
 all_goals omega
theorem cB_rg : ∀ a b : Str, cB a b = -1 ∨ cB a b = 0 ∨ cB a b = 1
 | [], [] => by simp [cB, Lib.compareBytes]
 | [], _ :: _ => by simp [cB, Lib.compareBytes]
 | _ :: _, [] => by simp [cB, Lib.compareBytes]
 | a :: x, b :: y => by
  have h := cB_rg x y
  rw [cB_cons]
  split
  ·exact .inl rfl
  ·split
   ·exact .inr (.inr rfl)
   ·exact h
theorem cV_rg (a b : Val) : cV a b = -1 ∨ cV a b = 0 ∨ cV a b = 1 := by
 have h1 := cI_rg a.1 b.1
 have h2 := cI_rg a.2.1 b.2.1
 have h3 := cB_rg a.2.2 b.2.2
 show (if cI a.1 b.1 ≠ 0 then cI a.1 b.1 else if cI a.2.1 b.2.1 ≠ 0 then cI a.2.1 b.2.1 else cB a.2.2 b.2.2) = -1 ∨ (if cI a.1 b.1 ≠ 0 then cI a.1 b.1 else if cI a.2.1 b.2.1 ≠ 0 then cI a.2.1 b.2.1 else cB a.2.2 b.2.2) = 0 ∨ (if cI a.1 b.1 ≠ 0 then cI a.1 b.1 else if cI a.2.1 b.2.1 ≠ 0 then cI a.2.1 b.2.1 else cB a.2.2 b.2.2) = 1
 split
 ·exact h1
 ·split
  ·exact h2
  ·exact h3
theorem cT_rg : ∀ a b : List Val, cT a b = -1 ∨ cT a b = 0 ∨ cT a b = 1
 | [], [] => by simp [cT]
 | [], _ :: _ => by simp [cT]
 | _ :: _, [] => by simp [cT]
 | a :: x, b :: y => by
  have h := cT_rg x y
  have h2 := cV_rg a b
  rw [cT_cons]
  split
  ·exact h2
  ·exact h
theorem scn_none {s : Sch} {l : List Tup} {i : Nat} : scn s l i = none ↔ ckT s (l.getD i tz) = 0 ∧ (i = 0 ∨ cT (l.getD (i - 1) tz).1 (l.getD i tz).1 < 0) := by
 have hr := cT_rg (l.getD (i - 1) tz).1 (l.getD i tz).1
 unfold scn
 by_cases h1 : ckT s (l.getD i tz) = 0
 ·rw [if_neg (fun h => h h1)]
  by_cases h2 : i = 0
  ·rw [if_pos h2]
   exact ⟨fun _ => ⟨h1, .inl h2⟩, fun _ => rfl⟩
  ·rw [if_neg h2]
   by_cases h3 : cT (l.getD (i - 1) tz).1 (l.getD i tz).1 = 0
   ·rw [if_pos h3]
    constructor
    ·intro h; cases h
    ·rintro ⟨_, h | h⟩ <;> omega
   ·rw [if_neg h3]
    by_cases h4 : cT (l.getD (i - 1) tz).1 (l.getD i tz).1 = 1
    ·rw [if_pos h4]
     constructor
     ·intro h; cases h
     ·rintro ⟨_, h | h⟩ <;> omega
    ·rw [if_neg h4]
     exact ⟨fun _ => ⟨h1, .inr (by omega)⟩, fun _ => rfl⟩
 ·rw [if_pos h1]
  constructor
  ·intro h; cases h
  ·intro h; exact absurd h.1 h1
theorem srt_get {l : List Tup} (h : ∀ i, i < l.length → i ≠ 0 → cT (l.getD (i - 1) tz).1 (l.getD i tz).1 < 0) : ∀ d i, i + d + 1 < l.length → cT (l.getD i tz).1 (l.getD (i + d + 1) tz).1 < 0
 | 0, i, hi => h (i + 1) hi (by omega)
 | d + 1, i, hi => cT_tr _ _ _ (srt_get h d i (by omega)) (h (i + (d + 1) + 1) hi (by omega))
theorem srtT_iff {l : List Tup} : srtT l ↔ ∀ i, i < l.length → i ≠ 0 → cT (l.getD (i - 1) tz).1 (l.getD i tz).1 < 0 := by
 have hg : ∀ i (h : i < l.length), l.getD i tz = l[i] := fun i h => by rw [List.getD_eq_getElem?_getD, List.getElem?_eq_getElem h]; rfl
 unfold srtT
 rw [List.pairwise_iff_getElem]
 constructor
 ·intro h i hi h0
  rw [hg i hi, hg (i - 1) (by omega)]
  exact h _ _ _ _ (by omega)
 ·intro h i j hi hj hij
  have := srt_get h (j - i - 1) i (by omega)
  have e : i + (j - i - 1) + 1 = j := by omega
  rw [e, hg i hi, hg j hj] at this
  exact this
theorem all_get {α : Type} {l : List α} (d : α) {P : α → Prop} : (∀ t ∈ l, P t) ↔ ∀ i, i < l.length → P (l.getD i d) := by
 constructor
 ·intro h i hi; exact h _ (getD_mem' d hi)
 ·intro h t ht
  obtain ⟨j, hj, e⟩ := List.mem_iff_getElem.1 ht
  have := h j hj
  rw [List.getD_eq_getElem?_getD, List.getElem?_eq_getElem hj, Option.getD_some, e] at this
  exact this
theorem scL_none {s : Sch} {l : List Tup} : scL s l l.length = none ↔ (∀ t ∈ l, ckT s t = 0) ∧ srtT l := by
 rw [all_get tz, srtT_iff]
 unfold scL
 rw [List.findSome?_eq_none_iff]
 constructor
 ·intro h
  refine ⟨fun i hi => (scn_none.1 (h i (List.mem_range.2 hi))).1, fun i hi h0 => ?_⟩
  rcases (scn_none.1 (h i (List.mem_range.2 hi))).2 with h1 | h1
  ·exact absurd h1 h0
  ·exact h1
 ·rintro ⟨h1, h2⟩ i hi
  have hi := List.mem_range.1 hi
  refine scn_none.2 ⟨h1 i hi, ?_⟩
  by_cases h0 : i = 0
  ·exact .inl h0
  ·exact .inr (h2 i hi h0)
theorem ckT_pr {s : Sch} {t : Tup} (h : ckT s t = 0) : schOk s = true ∧ t.1.length = s.2.2.length ∧ 0 ≤ fq t.2 ∧ fq t.2 ≤ 1 ∧ (s.2.1 = true → fq t.2 = 1) := by
 have hl := ckT_len h
 unfold ckT at h
 split at h
 ·cases h
 ·rename_i h1
  split at h
  ·cases h
  ·split at h
   ·cases h
   ·split at h
    ·cases h
    ·rename_i h2
     have h2 : pvB s.2.1 (fq t.2) = true := by simpa using h2
     unfold pvB pHd at h2
     simp only [Bool.and_eq_true, Bool.not_eq_true', Bool.or_eq_false_iff, decide_eq_false_iff_not, Bool.and_eq_false_iff, sgQ_lt] at h2
     obtain ⟨⟨⟨a1, a2⟩, a3⟩, a4⟩ := h2
     refine ⟨by simpa using h1, hl, by grind, by grind, fun hc => ?_⟩
     rcases a3 with a3 | a3
     ·rw [hc] at a3; cases a3
     ·have := sgQ_eq_zero.1 (Decidable.not_not.1 a3)
      grind
end Go.Proofs.YtnbeehcdnbanfaaGreat.Gx
