/-
  The decimal text of a number read back.
-/
import Derived.Test.YtpplleoiehnlkaaD10
namespace Go.Proofs.Ytpplleoiehnlkaa.Gx
open Go Go.RowKit Tw B Nt
set_option linter.unusedVariables false
set_option linter.unusedSimpArgs false
theorem Canon10 : C10 [] := ⟨fun d hd => (List.not_mem_nil hd).elim, fun h => nomatch h⟩
theorem dec_list : ∀ (f n : Nat), n ≤ f → ∃ l, C10 l ∧ V10 l = (n : Int)
  | 0, n, h => by
    have e : n = 0 := by omega
    rw [e]
    exact ⟨[], Canon10, rfl⟩
  | f + 1, n, h => by
    rcases Nat.eq_zero_or_pos n with h0 | h0
    · exact dec_list f n (by omega)
    · obtain ⟨l, h1, h2⟩ := dec_list f (n / 10) (by omega)
      refine ⟨((n % 10 : Nat) : Int) :: l, ⟨fun d hd => ?_, ?_⟩, ?_⟩
      · rcases List.mem_cons.1 hd with rfl | hd
        · omega
        · exact h1.1 d hd
      · rcases l with _ | ⟨c, l⟩
        · have : n / 10 = 0 := by
            have : V10 [] = 0 := rfl
            omega
          simp; omega
        · rw [List.getLast?_cons_cons]; exact h1.2
      · rw [V10, h2]; omega
theorem dec_ex {n : Int} (h : 0 ≤ n) : ∃ s, IsDec s n := by
  rcases Int.lt_or_eq_of_le h with h | h
  · obtain ⟨l, h1, h2⟩ := dec_list n.toNat n.toNat (Nat.le_refl _)
    exact ⟨decS l, .inr ⟨h, l, h1, by omega, rfl⟩⟩
  · exact ⟨⟨#[48]⟩, .inl ⟨h.symm, rfl⟩⟩
theorem decB_ok : ∀ {l : List Int}, D10 l → (decB l).all isD = true ∧ dval (decB l) = V10 l
  | [], _ => ⟨rfl, rfl⟩
  | d :: l, h => by
    obtain ⟨h1, h2⟩ := decB_ok h.tail
    have hd := h.head
    have e : decB (d :: l) = decB l ++ [UInt8.ofNat (d + 48).toNat] := by simp [decB]
    have hn : (UInt8.ofNat (d + 48).toNat).toNat = (d + 48).toNat := by
      rw [UInt8.toNat_ofNat']; omega
    rw [e, List.all_append, dval_snoc, h1, h2, hn, V10]
    refine ⟨?_, by omega⟩
    simp only [List.all_cons, List.all_nil, Bool.and_true, Bool.true_and]
    unfold isD
    simp only [Bool.and_eq_true, decide_eq_true_eq, UInt8.le_iff_toNat_le, hn]
    constructor
    · show 48 ≤ _; omega
    · show _ ≤ 57; omega
theorem decT_ok {n : Int} (h : 0 ≤ n) : digs (decT n) = true ∧ dval (decT n) = n := by
  obtain ⟨s, hs⟩ := dec_ex h
  rw [decT_of hs]
  rcases hs with ⟨rfl, rfl⟩ | ⟨h0, l, h1, h2, rfl⟩
  · exact ⟨by decide, by decide⟩
  · obtain ⟨h3, h4⟩ := decB_ok h1.1
    have e : (decS l).data.toList = decB l := rfl
    rw [e, h4]
    refine ⟨?_, h2⟩
    unfold digs
    rw [h3, Bool.and_true]
    cases hl : decB l with
    | nil => rw [hl] at h4; rw [← h4] at h2; exact absurd h2 (by rw [show dval [] = 0 from rfl]; omega)
    | cons _ _ => rfl
/-- a text of digits, perhaps with a second one behind a slash -/
theorem ft_parts (ng : Bool) {a d : Int} (ha : 0 ≤ a) (hd : 0 < d) : tC (decT a ++ 47 :: decT d) = 0 ∧ tQ ng (decT a ++ 47 :: decT d) = mk ng a d := by
  obtain ⟨a1, a2⟩ := decT_ok ha
  obtain ⟨d1, d2⟩ := decT_ok (Int.le_of_lt hd)
  generalize hA : decT a = A at *
  generalize hD : decT d = D at *
  have hz : A.length ≠ 0 := fun e => (digs_iff.1 a1).1 (List.length_eq_zero_iff.1 e)
  have hlt : A.length < (A ++ 47 :: D).length := by simp
  have hg : (A ++ 47 :: D)[A.length]? = some 47 := by simp
  have ht : (A ++ 47 :: D).take A.length = A := by simp
  have hdr : (A ++ 47 :: D).drop (A.length + 1) = D := by simp
  have e : ldig (A ++ 47 :: D) = A.length := ldig_stop (Nat.le_of_lt hlt) (by rw [ht]; exact digs_all a1) (Or.inr ⟨47, hg, by decide⟩)
  have h47 : (A ++ 47 :: D).getD A.length 0 = 47 := by rw [List.getD_eq_getElem?_getD, hg]; rfl
  obtain ⟨f1, f2⟩ := tC_e e hz hlt h47 (by rw [hdr]; exact d1) ng
  rw [hdr, d2] at f1 f2
  rw [ht, a2] at f2
  exact ⟨by rw [f1, if_neg (by omega)], f2⟩
theorem ft_one (ng : Bool) {a : Int} (ha : 0 ≤ a) : tC (decT a) = 0 ∧ tQ ng (decT a) = mk ng a 1 := by
  obtain ⟨a1, a2⟩ := decT_ok ha
  have e := (digs_iff.1 a1).2
  have hz : (decT a).length ≠ 0 := fun e => (digs_iff.1 a1).1 (List.length_eq_zero_iff.1 e)
  refine ⟨tC_d e hz, ?_⟩
  unfold tQ
  rw [if_pos e, a2]
theorem dec_head {a : Int} (ha : 0 ≤ a) (r : List UInt8) : fpN (decT a ++ r) = false := by
  obtain ⟨a1, -⟩ := decT_ok ha
  have h2 := digs_all a1
  have h3 := (digs_iff.1 a1).1
  unfold fpN
  rcases hA : decT a with _ | ⟨c, l⟩
  · exact absurd hA h3
  · rw [hA] at h2
    simp only [List.all_cons, Bool.and_eq_true] at h2
    refine decide_eq_false fun e => ?_
    simp at e
    rw [e] at h2
    exact absurd h2.1 (by decide)
/-- a text of a fraction is read back -/
theorem ft_back {q : Rat} (h : (ftT q).length ≤ 4000) : fpC (ftT q) = 0 ∧ fpQ (ftT q) = q := by
  have key : tC (fpS (ftT q)) = 0 ∧ tQ (fpN (ftT q)) (fpS (ftT q)) = q := by
    have h0 : (0 : Int) ≤ (q.num.natAbs : Int) := by omega
    have h1 : (0 : Int) < (q.den : Int) := by have := q.den_pos; omega
    have ms := mk_self q
    unfold ftT fpS
    by_cases hd : q.den = 1 <;> by_cases hn : q.num < 0 <;> simp only [hd, hn, if_true, if_false]
    · obtain ⟨f1, f2⟩ := ft_one true h0
      rw [hd, decide_eq_true hn] at ms
      exact ⟨f1, f2.trans ms⟩
    · obtain ⟨f1, f2⟩ := ft_one false h0
      rw [hd, decide_eq_false hn] at ms
      have := dec_head h0 []
      rw [List.append_nil] at this
      rw [this]
      exact ⟨f1, f2.trans ms⟩
    · obtain ⟨f1, f2⟩ := ft_parts true h0 h1
      rw [decide_eq_true hn] at ms
      exact ⟨f1, f2.trans ms⟩
    · obtain ⟨f1, f2⟩ := ft_parts false h0 h1
      rw [decide_eq_false hn] at ms
      rw [dec_head h0]
      exact ⟨f1, f2.trans ms⟩
  unfold fpC fpQ
  rw [if_neg (by omega)]
  exact key
end Go.Proofs.Ytpplleoiehnlkaa.Gx
