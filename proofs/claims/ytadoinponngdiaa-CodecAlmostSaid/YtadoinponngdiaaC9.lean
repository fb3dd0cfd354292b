/-
  The laws CodecUnique and CodecTruncated.
-/
import Derived.Test.YtadoinponngdiaaC8
namespace Go.Proofs.Ytadoinponngdiaa.Gx
open Go Go.RowKit Tw B Nt
set_option linter.unusedVariables false
set_option linter.unusedSimpArgs false
set_option maxHeartbeats 4000000
set_option maxRecDepth 20000
theorem rF_inv {l : List Int} (hb : By l) (h : (rF (l, 0)).2.2 = 0) : l = eFc (rF (l, 0)).1 ++ (rF (l, 0)).2.1 ∧ isCan (rF (l, 0)).1 = true := by
  have f0 := rRaw_f (s := (l, 0)) (n := 1) hb (by decide)
  have i0 := @rRaw_inv l 1 (by decide)
  unfold rF at h ⊢
  generalize rRaw (l, 0) 1 = q at *
  obtain ⟨b, r, e⟩ := q
  dsimp only at f0 i0 h ⊢
  by_cases h1 : e ≠ 0
  · rw [if_pos h1] at h; exact absurd h h1
  have h1 : e = 0 := by omega
  subst h1
  rw [if_neg (by simp)] at h ⊢
  obtain ⟨i1, i2⟩ := i0 rfl
  obtain ⟨a1, a2, -⟩ := f0
  obtain ⟨c, rfl⟩ : ∃ c, b = [c] := by
    cases b with
    | nil => simp at i2
    | cons c t => cases t with
      | nil => exact ⟨c, rfl⟩
      | cons d t => simp at i2; omega
  have hc := a1 c (List.mem_cons_self ..)
  rw [u8R] at hc
  have hg : [c].getD 0 0 = c := rfl
  rw [hg] at h ⊢
  by_cases h2 : 1 < c
  · rw [if_pos h2] at h; exact absurd (show (2 : Int) = 0 from h) (by decide)
  rw [if_neg h2] at h ⊢
  have n1 := @rN_inv r a2
  obtain ⟨g1, g2, -, -⟩ := rN_f (s := (r, 0)) a2
  have ne := @rN_e (rN (r, 0)).2
  generalize rN (r, 0) = q at *
  obtain ⟨x, r1, e1⟩ := q
  dsimp only at n1 g1 g2 h ne ⊢
  by_cases h3 : e1 = 0
  · subst h3
    have n1 := n1 rfl
    have n2 := @rN_inv r1 g2
    generalize rN (r1, 0) = q at *
    obtain ⟨y, r2, e2⟩ := q
    dsimp only at n2 h ⊢
    by_cases h4 : e2 = 0
    · subst h4
      have n2 := n2 rfl
      rw [if_neg (by simp)] at h ⊢
      split
      · rename_i hcan
        refine ⟨?_, hcan⟩
        rw [eFc_app]
        dsimp only
        rw [← n2, ← n1, show (if decide (c = 1) then (1 : Int) else 0) = c by
          by_cases hc1 : c = 1
          · subst hc1; rfl
          · rw [if_neg (by simpa using hc1)]; omega]
        exact i1
      · rename_i hcan
        rw [if_neg hcan] at h
        exact absurd (show (2 : Int) = 0 from h) (by decide)
    · rw [if_pos h4] at h; exact absurd h h4
  · have ne := ne h3
    rw [ne] at h ⊢
    dsimp only at h ⊢
    rw [if_pos h3] at h
    exact absurd h h3
theorem rF_bad {l : List Int} (h : (rF (l, 0)).2.2 ≠ 0) : (rF (l, 0)).2.1 = [] := by
  have i0 := @rRaw_bad l 1
  unfold rF at h ⊢
  generalize rRaw (l, 0) 1 = q at *
  obtain ⟨b, r, e⟩ := q
  dsimp only at i0 h ⊢
  by_cases h1 : e ≠ 0
  · rw [if_pos h1]; exact i0 h1
  have h1 : e = 0 := by omega
  subst h1
  rw [if_neg (by simp)] at h ⊢
  split
  · rfl
  · rename_i h2
    rw [if_neg h2] at h
    have n1 := @rN_bad r
    have ne := @rN_e (rN (r, 0)).2
    generalize rN (r, 0) = q at *
    obtain ⟨x, r1, e1⟩ := q
    dsimp only at n1 h ne ⊢
    by_cases h3 : e1 = 0
    · subst h3
      have n2 := @rN_bad r1
      generalize rN (r1, 0) = q at *
      split
      · rename_i h4; exact n2 h4
      · rename_i h4
        rw [if_neg h4] at h
        split
        · rename_i h5
          rw [if_pos h5] at h
          exact absurd h h4
        · rfl
    · have ne := ne h3
      rw [ne] at h ⊢
      dsimp only at h ⊢
      rw [if_pos h3]
      exact n1 h3
theorem take_pre {l a r : List Int} (h : l = a ++ r) {n : Int} (hn : (l.length : Int) - r.length = n) : l.take n.toNat = a := by
  subst h
  rw [List.length_append] at hn
  have : n.toNat = a.length := by omega
  rw [this, List.take_left]
theorem un_fin {X r b : List Int} {e : Int} (hb : b.length ≤ 100) (h1 : e ≠ 0 → r = []) (h2 : e = 0 → b = X ++ r) :
    (decide (e ≠ 0) = true → decide ((r.length : Int) = 0) = true ∧ true = true ∧ True) ∧
    (decide (e ≠ 0) = false → inR .i64 ((b.length : Int) - r.length) ∧ decide (0 ≤ (b.length : Int) - r.length) = true ∧ decide ((b.length : Int) - r.length ≤ b.length) = true ∧
      (0 ≤ (b.length : Int) - r.length ∧ (b.length : Int) - r.length ≤ b.length) ∧ decide (strB X = strB (b.take ((b.length : Int) - r.length).toNat)) = true ∧ true = true ∧ True) := by
  refine ⟨fun h => ?_, fun h => ?_⟩
  · simp only [decide_eq_true_eq] at h
    rw [h1 h]
    exact ⟨by decide, rfl, trivial⟩
  · simp only [decide_eq_false_iff_not] at h
    have hb2 := h2 (by omega)
    have hl := congrArg List.length hb2
    rw [List.length_append] at hl
    rw [take_pre hb2 rfl]
    exact ⟨by rw [inR_i64]; omega, decide_eq_true (by omega), decide_eq_true (by omega), by omega, by simp, rfl, trivial⟩
theorem rF_f {s : Rd} (hb : By s.1) : Fd (rF s).1 ∧ fs (rF s).1 ≤ 2049 ∧ By (rF s).2.1 ∧ (rF s).2.1.length ≤ s.1.length := by
  obtain ⟨a1, a2, -, -, a5, -⟩ := rRaw_f (s := s) (n := 1) hb (by decide)
  obtain ⟨g1, g2, g3, g4⟩ := rN_f a2
  obtain ⟨k1, k2, k3, k4⟩ := rN_f g2
  have hz : Fd zF ∧ fs zF ≤ 2049 := ⟨⟨Ds.nil, Ds.nil⟩, by decide⟩
  have nil : By [] := fun x hx => by cases hx
  unfold rF
  split
  · exact ⟨hz.1, hz.2, a2, a5⟩
  · split
    · exact ⟨hz.1, hz.2, nil, Nat.zero_le _⟩
    · split
      · exact ⟨hz.1, hz.2, k2, by show (rN (rN (rRaw s 1).2).2).2.1.length ≤ _; omega⟩
      · split
        · exact ⟨⟨g1.1, k1.1⟩, by show max (rN (rRaw s 1).2).1.length (rN (rN (rRaw s 1).2).2).1.length ≤ 2049; omega, k2, by show (rN (rN (rRaw s 1).2).2).2.1.length ≤ _; omega⟩
        · exact ⟨hz.1, hz.2, nil, Nat.zero_le _⟩
@[go_sem] def lUnS : Spec := ⟨[bT, .int .u8], fun d => (.dat .bool true, [])⟩
theorem lUn_ok : SpecOk Try.prog 7 lUnS := by
  refine fn_ok ECG_ok lUnS Try.func7 rfl (by decide) (N := 69) rfl (res := [.tmp 4]) rfl (by decide) [(3, [(12, .ow)]), (10, [(23, .ow)]), (12, [(28, .ow)]), (14, [(33, .ow)]), (8, [(18, .ow)]), (15, [(36, .ow)]), (16, [(39, .ow), (41, .tr true)]), (17, [(47, .ow)]), (18, [(51, .tr true), (57, .tr true), (66, .tr true)])] [] [] 100 (by kernel_rfl) ?_
  rintro ⟨b, (k:Int), _⟩ hw hp
  refine ⟨rfl, fun H hH => ?_⟩
  dsimp only [go_sem] at hw hp ⊢
  obtain ⟨⟨-, hby⟩, -⟩ := hw
  change By b at hby
  have hb (h : ¬ 100 < (List.length b : Int)) : List.length b ≤ 100 := by omega
  have hb2 (h : ¬ 100 < (List.length b : Int)) : List.length b ≤ 1000000 := by omega
  have fB := rB_f (s := (b, 0)) (mx := 1048576) hby
  have fN := rN_f (s := (b, 0)) hby
  have fF := rF_f (s := (b, 0)) hby
  refine ⟨fun _ => ⟨rfl, trivial⟩, fun h => ?_⟩
  simp only [decide_eq_false_iff_not] at h
  refine ⟨hb2 h, ⟨_, rfl⟩, fun _ => ?_, fun _ => ⟨fun _ => ⟨hb2 h, ?_, ?_⟩, fun _ => ⟨fun _ => ⟨hb2 h, ?_, ?_⟩, fun _ => ⟨hb2 h, ?_, ?_⟩⟩⟩⟩
  · refine un_fin (hb h) rU_bad fun he => ?_
    obtain ⟨m, e1, e2, -⟩ := rU_inv hby he
    rw [e2, Int.toNat_natCast]
    exact e1
  · have := fB.2.2.2.1
    exact Nat.le_trans this (hb2 h)
  · exact un_fin (hb h) rB_bad fun he => rB_inv hby he
  · have := fN.2.2.1
    omega
  · exact un_fin (hb h) rN_bad fun he => rN_inv hby he
  · have := fF.2.1
    omega
  · refine un_fin (hb h) rF_bad fun he => ?_
    obtain ⟨e1, e2⟩ := rF_inv hby he
    have e3 := of_decide_eq_true e2
    rw [← e3]
    exact e1
end Go.Proofs.Ytadoinponngdiaa.Gx
