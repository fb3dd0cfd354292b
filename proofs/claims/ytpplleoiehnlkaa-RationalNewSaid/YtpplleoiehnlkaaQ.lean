/-
  What it means that a Go value of type api.Frac reads as a rational number; contracts of rational.zero, isOne and reduce.
-/
import Derived.Test.YtpplleoiehnlkaaQPlain
namespace Go.Proofs.Ytpplleoiehnlkaa.Nt
open Go.ChangeShapes Go.WideShapes Go.ChangeAt Go.RowKit B
set_option linter.unusedVariables false

theorem IsNew.form {base : Nat} {w : World} {v : Value} {n : Int} (h : IsNew base w v n) : ∃ a len cap, v = .slice a len cap := by
  obtain ⟨l, h1, _⟩ := h
  obtain ⟨a, cap, rfl, _⟩ := Row.parts h1
  exact ⟨a, _, cap, rfl⟩
theorem Num.form {w : World} {v : Value} {c : Nat} {n : Int} (h : Num w v c n) : ∃ a len cap, v = .slice a len cap := by
  obtain ⟨l, h1, _⟩ := h
  obtain ⟨a, cap, rfl, _⟩ := Row.parts h1
  exact ⟨a, _, cap, rfl⟩
/-- a canonical fraction in new memory -/
def IsQ (base : Nat) (w : World) (v : Value) (q : Rat) : Prop :=
  ∃ vn vd, v = .agg #[.bool (decide (q.num < 0)), vn, vd] ∧ IsNew base w vn (q.num.natAbs : Int) ∧ IsNew base w vd (q.den : Int)
/-- a fraction, canonical or not, whose parts have at most c digits -/
def Raw (w : World) (v : Value) (c : Nat) (q : Rat) : Prop :=
  ∃ neg vn vd n d, v = .agg #[.bool neg, vn, vd] ∧ Num w vn c n ∧ Num w vd c d ∧ q = mk neg n d
/-- a call that returns a canonical fraction -/
def RetQ (base : Nat) (w : World) (q : Rat) (e : Ending) (w' : World) : Prop := ∃ v, e = .returned v ∧ IsQ base w' v q ∧ Below base w w'

theorem IsQ.keep {base : Nat} {w w' : World} {v : Value} {q : Rat} (h : IsQ base w v q) (hb : Below w.heap.size w w') : IsQ base w' v q := by
  obtain ⟨vn, vd, h1, h2, h3⟩ := h
  exact ⟨vn, vd, h1, h2.keep hb, h3.keep hb⟩
theorem IsQ.mono {base base' : Nat} {w : World} {v : Value} {q : Rat} (h : IsQ base w v q) (hb : base' ≤ base) : IsQ base' w v q := by
  obtain ⟨vn, vd, h1, h2, h3⟩ := h
  exact ⟨vn, vd, h1, h2.mono hb, h3.mono hb⟩
theorem IsQ.raw {base : Nat} {w : World} {v : Value} {q : Rat} (h : IsQ base w v q) (c : Nat) (hc : Qb c q) : Raw w v c q := by
  obtain ⟨vn, vd, h1, h2, h3⟩ := h
  exact ⟨_, vn, vd, _, _, h1, h2.num c hc.1, h3.num c hc.2, (mk_self q).symm⟩
theorem Raw.keep {w w' : World} {v : Value} {c : Nat} {q : Rat} (h : Raw w v c q) (hb : Below w.heap.size w w') : Raw w' v c q := by
  obtain ⟨neg, vn, vd, n, d, h1, h2, h3, h4⟩ := h
  exact ⟨neg, vn, vd, n, d, h1, h2.keep hb, h3.keep hb, h4⟩
theorem Raw.mono {w : World} {v : Value} {c c' : Nat} {q : Rat} (h : Raw w v c q) (hc : c ≤ c') : Raw w v c' q := by
  obtain ⟨neg, vn, vd, n, d, h1, h2, h3, h4⟩ := h
  exact ⟨neg, vn, vd, n, d, h1, h2.mono hc, h3.mono hc, h4⟩
/-- the zero value of api.Frac -/
theorem Raw.zero (w : World) (c : Nat) : Raw w (.agg #[.bool false, .slice none 0 0, .slice none 0 0]) c 0 :=
  ⟨false, _, _, 0, 0, rfl, ⟨[], Row.nil _ _, by simp, rfl⟩, ⟨[], Row.nil _ _, by simp, rfl⟩, (mk_zero (.inl rfl)).symm⟩

/-- the cells of a struct in a block that was just made stay while only newer blocks are written -/
theorem box_later {w w1 w' : World} {C : Array Value} {t : TypeId} (hb : Below w1.heap.size w1 w') (h1 : w1 = w.alloc (.cells C t (0, 0))) (i : Nat) :
    w'.cell? ⟨w.heap.size, i, none⟩ = C[i]? ∧ w'.frozen? ⟨w.heap.size, i, none⟩ = false := by
  subst h1
  refine ⟨?_, ?_⟩
  · rw [hb.cell (p := ⟨w.heap.size, i, none⟩) (by simp), World.cell?_alloc_mark]
  · rw [hb.frozen (p := ⟨w.heap.size, i, none⟩) (by simp), World.frozen?_alloc_mark]; simp

theorem IsNew.put {w : World} {g base : Nat} {v : Value} {n : Int} (h : IsNew base w v n) (hg : g < base) (i : Nat) (x : Value) : IsNew base (w.setCell ⟨g, i, none⟩ x) v n := by
  have hh : ∀ b, b ≠ g → (w.setCell ⟨g, i, none⟩ x).heap[b]? = w.heap[b]? := fun b hb => Below.heap_setCell w ⟨g, i, none⟩ x b hb
  obtain ⟨l, h1, h2, h3, h4⟩ := h
  refine ⟨l, Row.of_heap h1 ?_, h2, h3, ?_⟩
  · rintro b off sp m c rfl
    obtain ⟨q1, _⟩ := h4 b off sp m c rfl
    exact hh b (by omega)
  · rintro b off sp m c rfl
    obtain ⟨q1, cs, q2⟩ := h4 b off sp m c rfl
    exact ⟨q1, cs, by rw [hh b (by omega)]; exact q2⟩
theorem IsNew.put3 {w : World} {g base : Nat} {v : Value} {n : Int} (h : IsNew base w v n) (hg : g < base) (x y z : Value) :
    IsNew base (((w.setCell ⟨g, 0, none⟩ x).setCell ⟨g, 1, none⟩ y).setCell ⟨g, 2, none⟩ z) v n := ((h.put hg 0 x).put hg 1 y).put hg 2 z
/-- a fraction that was stored in the cell of a result -/
theorem IsQ.stored {w0 w : World} {g base : Nat} {v : Value} {q : Rat} {x y z : Value} (h : IsQ base w v q) (hg : g < base) : IsQ base (((w.setCell ⟨g, 0, none⟩ x).setCell ⟨g, 1, none⟩ y).setCell ⟨g, 2, none⟩ z) v q := by
  obtain ⟨vn, vd, h1, h2, h3⟩ := h
  exact ⟨vn, vd, h1, h2.put3 hg _ _ _, h3.put3 hg _ _ _⟩
theorem below_put3 {B g : Nat} {a w : World} (h : Below B a w) (hg : B ≤ g) (x y z : Value) : Below B a (((w.setCell ⟨g, 0, none⟩ x).setCell ⟨g, 1, none⟩ y).setCell ⟨g, 2, none⟩ z) :=
  ((h.setCell (p := ⟨g, 0, none⟩) hg x).setCell (p := ⟨g, 1, none⟩) hg y).setCell (p := ⟨g, 2, none⟩) hg z

theorem qZero (w : World) : Calls Try.prog 71 #[] w (RetQ w.heap.size w 0) := by
  go_enter Try.func71, Try.ntmps71
  go_wp2_with fail
  refine (fromUint64 1 _ (by decide) (by decide)).mono ?_
  rintro e w2 ⟨v, rfl, h, hb⟩
  obtain ⟨a, n, c, rfl⟩ := h.form
  have HI := Lib.hid h
  have HB := Lib.hid hb
  obtain ⟨c0, f0⟩ := box_later hb rfl 0
  obtain ⟨c1, f1⟩ := box_later hb rfl 1
  obtain ⟨c2, f2⟩ := box_later hb rfl 2
  simp at c0 c1 c2
  clear h hb
  go_wp2_with fail
  have hb2 : Below w.heap.size w w2 := ((Below.refl _ _).alloc (Nat.le_refl _) _).trans (HB.out.mono (by simp))
  refine bodyPost_ret (v := .agg #[.bool false, .slice none 0 0, .slice a n c]) (by simp [results, Try.results71, go_sem, c0, c1, c2]) rfl ?_
  exact ⟨_, rfl, ⟨.slice none 0 0, .slice a n c, rfl, IsNew.nil _ _, (HI.out.put3 (by simp) _ _ _).mono (by simp)⟩, below_put3 hb2 (Nat.le_refl _) _ _ _⟩

theorem IsQ.form {base : Nat} {w : World} {v : Value} {q : Rat} (h : IsQ base w v q) : ∃ b a1 n1 c1 a2 n2 c2, v = .agg #[.bool b, .slice a1 n1 c1, .slice a2 n2 c2] := by
  obtain ⟨vn, vd, rfl, h1, h2⟩ := h
  obtain ⟨a1, n1, c1, rfl⟩ := h1.form
  obtain ⟨a2, n2, c2, rfl⟩ := h2.form
  exact ⟨_, a1, n1, c1, a2, n2, c2, rfl⟩

theorem isOneC (v : Value) (l : List Int) (w : World) (h : Row .u32 w v l) (hc : Canon l) :
    Calls Try.prog 59 #[v] w fun e w' => e = .returned (.bool (decide (N l = 1))) ∧ w = w' := by
  obtain ⟨a, cap, rfl, hcl, hcm, hcell⟩ := Row.parts h
  have HC := Lib.hid hcell
  have HK := Lib.hid hc
  clear h hcell hc
  rcases l with _ | ⟨x, _ | ⟨y, m⟩⟩
  · go_enter Try.func59, Try.ntmps59
    go_wp2
    go_ret
    exact ⟨rfl, rfl⟩
  · obtain ⟨b, off, rfl, q0, _⟩ := HC.out 0 (by simp)
    have hx := HK.out.1.head
    simp only [List.getElem?_cons_zero, Option.getD_some, Nat.add_zero, List.length_cons, List.length_nil, Nat.zero_add] at q0 hcl hcm ⊢
    by_cases h1 : x = 1
    · subst h1
      go_enter Try.func59, Try.ntmps59
      go_wp2
      go_ret
      exact ⟨rfl, rfl⟩
    · have hf : (x == 1) = false := by rw [beq_eq_false_iff_ne]; exact h1
      have HN := Lib.hid (show decide (N [x] = 1) = false by simp [N]; exact h1)
      clear h1
      go_enter Try.func59, Try.ntmps59
      go_wp2
      go_ret
      exact ⟨by rw [HN.out]; rfl, rfl⟩
  · have hf : ((List.length (x :: y :: m) : Int) == 1) = false := by simp only [beq_eq_false_iff_ne, List.length_cons]; omega
    have HN := Lib.hid (show decide (N (x :: y :: m) = 1) = false by
      have := HK.out.lower (m.length + 1) (by simp)
      rw [Bp] at this
      have := Bp_pos m.length
      rw [decide_eq_false_iff_not]; omega)
    generalize hL : (x :: y :: m).length = len at *
    clear hL
    go_enter Try.func59, Try.ntmps59
    go_wp2
    go_ret
    exact ⟨by rw [HN.out]; rfl, rfl⟩
theorem isOne {base : Nat} (v : Value) (n : Int) (w : World) (h : IsNew base w v n) :
    Calls Try.prog 59 #[v] w fun e w' => e = .returned (.bool (decide (n = 1))) ∧ w = w' := by
  obtain ⟨l, h1, h2, rfl, _⟩ := h
  exact isOneC v l w h1 h2

set_option maxHeartbeats 1000000 in
theorem qReduce (neg : Bool) (vn vd : Value) (c : Nat) (n d : Int) (w : World) (hn : Num w vn c n) (hd : Num w vd c d) (hc : c ≤ 1000000000) :
    Calls Try.prog 46 #[.bool neg, vn, vd] w (RetQ w.heap.size w (mk neg n d)) := by
  have HNN := Lib.hid (And.intro hn.nonneg hd.nonneg)
  have HLT := Lib.hid (And.intro hn.lt hd.lt)
  have HN := Lib.hid (hn.keep ((Below.refl _ _).alloc (Nat.le_refl _) (.cells #[.bool false, .slice none 0 0, .slice none 0 0] 25 (0, 0))))
  have HD := Lib.hid (hd.keep ((Below.refl _ _).alloc (Nat.le_refl _) (.cells #[.bool false, .slice none 0 0, .slice none 0 0] 25 (0, 0))))
  have hz0 := blen_zero hn.nonneg
  have hz1 := blen_zero hd.nonneg
  clear hn hd
  by_cases h0 : n = 0 ∨ d = 0
  · have HQ := Lib.hid (mk_zero (neg := neg) h0)
    have hnd : decide (n = 0) = true ∨ decide (n = 0) = false ∧ decide (d = 0) = true := by
      by_cases h : n = 0
      · exact .inl (by simpa using h)
      · exact .inr ⟨by simpa using h, by simp; rcases h0 with h1 | h1; exact absurd h1 h; exact h1⟩
    clear h0
    rcases hnd with hnd | ⟨hnd, hdd⟩
    all_goals
      rw [hnd] at hz0
      try rw [hdd] at hz1
      go_enter Try.func46, Try.ntmps46
      clear hnd
      try clear hdd
      go_wp2_with (first
        | ((with_reducible refine (Nt.bitLen _ c n _ HN.out (by omega)).mono ?_); rintro e w' ⟨rfl, rfl⟩)
        | ((with_reducible refine (Nt.bitLen _ c d _ HD.out (by omega)).mono ?_); rintro e w' ⟨rfl, rfl⟩))
      refine (qZero _).mono ?_
      rintro e w2 ⟨v, rfl, h, hb⟩
      obtain ⟨b, a1, n1, c1, a2, n2, c2, rfl⟩ := h.form
      have HI := Lib.hid h
      have HB := Lib.hid hb
      obtain ⟨k0, f0⟩ := box_later hb rfl 0
      obtain ⟨k1, f1⟩ := box_later hb rfl 1
      obtain ⟨k2, f2⟩ := box_later hb rfl 2
      simp at k0 k1 k2
      clear h hb
      go_wp2_with fail
      have hb2 : Below w.heap.size w w2 := ((Below.refl _ _).alloc (Nat.le_refl _) _).trans (HB.out.mono (by simp))
      refine bodyPost_ret (v := .agg #[.bool b, .slice a1 n1 c1, .slice a2 n2 c2]) (by simp [results, Try.results46, go_sem, k0, k1, k2]) rfl ?_
      exact ⟨_, rfl, by rw [HQ.out]; exact (HI.out.stored (w0 := w) (by simp)).mono (by simp), below_put3 hb2 (Nat.le_refl _) _ _ _⟩
  · have hn0 : 0 < n := by have := HNN.out.1; omega
    have hd0 : 0 < d := by have := HNN.out.2; omega
    rw [decide_eq_false (show ¬ n = 0 by omega)] at hz0
    rw [decide_eq_false (show ¬ d = 0 by omega)] at hz1
    have HP := Lib.hid (mk_parts (neg := neg) hn0 hd0)
    have HG := Lib.hid (show gcdI n d < Bp c ∧ gcdI n d ≠ 0 by
      have h1 : gcdI n d ≤ n := by
        unfold gcdI
        have := Nat.gcd_le_left (m := n.toNat) d.toNat (by omega)
        omega
      have := HP.out.2.2.1
      have := HLT.out.1
      omega)
    clear h0
    go_enter Try.func46, Try.ntmps46
    go_wp2_with (first
      | ((with_reducible refine (Nt.bitLen _ c n _ HN.out (by omega)).mono ?_); rintro e w' ⟨rfl, rfl⟩)
      | ((with_reducible refine (Nt.bitLen _ c d _ HD.out (by omega)).mono ?_); rintro e w' ⟨rfl, rfl⟩))
    clear hz0 hz1
    refine (Nt.gcd _ _ c n d _ HN.out HD.out (by omega)).mono ?_
    rintro e w2 ⟨vg, rfl, hg, hb2⟩
    have HGN := Lib.hid hg
    have HN2 := Lib.hid (HN.out.keep hb2)
    have HD2 := Lib.hid (HD.out.keep hb2)
    have HB2 := Lib.hid hb2
    clear hg hb2 HN HD
    go_wp2_with fail
    refine (isOne vg (gcdI n d) w2 HGN.out).mono ?_
    rintro e w' ⟨rfl, rfl⟩
    by_cases h1 : gcdI n d = 1
    · rw [decide_eq_true h1]
      rw [h1, Int.ediv_one, Int.ediv_one] at HP
      clear h1
      go_wp2_with fail
      refine (Nt.normalize vn c n w2 HN2.out (by omega)).mono ?_
      rintro e w3 ⟨v3, rfl, h3, hb3⟩
      have HV3 := Lib.hid h3
      clear h3
      go_wp2_with fail
      refine (Nt.normalize vd c d w3 (HD2.out.keep hb3) (by omega)).mono ?_
      rintro e w4 ⟨v4, rfl, h4, hb4⟩
      have HV4 := Lib.hid h4
      clear h4
      have hb24 := hb3.trans (hb4.mono hb3.size)
      have hball := HB2.out.trans (hb24.mono HB2.out.size)
      have hs2 := HB2.out.size
      have hs3 := hb3.size
      obtain ⟨k0, f0⟩ := box_later hball rfl 0
      obtain ⟨k1, f1⟩ := box_later hball rfl 1
      obtain ⟨k2, f2⟩ := box_later hball rfl 2
      simp at k0 k1 k2 hs2
      obtain ⟨a1, n1, c1, rfl⟩ := HV3.out.form
      obtain ⟨a2, n2, c2, rfl⟩ := HV4.out.form
      have HV3 := Lib.hid (HV3.out.keep hb4)
      have HBA := Lib.hid hball
      clear hball hb24 hb3 hb4
      go_wp2_with fail
      have hbw : Below w.heap.size w w4 := ((Below.refl _ _).alloc (Nat.le_refl _) _).trans (HBA.out.mono (by simp))
      refine bodyPost_ret (v := .agg #[.bool neg, .slice a1 n1 c1, .slice a2 n2 c2]) (by simp [results, Try.results46, go_sem, k0, k1, k2]) rfl ?_
      refine ⟨_, rfl, ⟨.slice a1 n1 c1, .slice a2 n2 c2, ?_, ?_, ?_⟩, below_put3 hbw (Nat.le_refl _) _ _ _⟩
      · rw [HP.out.1, sg_neg hn0]
      · rw [HP.out.1, sg_abs (Int.le_of_lt hn0)]
        exact ((HV3.out.mono (base' := w.heap.size + 1) (by omega)).put3 (by omega) _ _ _).mono (by omega)
      · rw [HP.out.2.1]
        exact ((HV4.out.mono (base' := w.heap.size + 1) (by omega)).put3 (by omega) _ _ _).mono (by omega)
    · rw [decide_eq_false h1]
      clear h1
      go_wp2_with fail
      refine (Nt.divMod vn vg c n (gcdI n d) w2 HN2.out (HGN.out.num c HG.out.1) (by omega)).mono ?_
      rintro e w3 ⟨v3, x3, rfl, h3, g3, hb3⟩
      rw [decide_eq_true HG.out.2]
      have HV3 := Lib.hid h3
      clear h3 g3
      go_wp2_with fail
      refine (Nt.divMod vd vg c d (gcdI n d) w3 (HD2.out.keep hb3) ((HGN.out.keep hb3).num c HG.out.1) (by omega)).mono ?_
      rintro e w4 ⟨v4, x4, rfl, h4, g4, hb4⟩
      rw [decide_eq_true HG.out.2]
      have HV4 := Lib.hid h4
      clear h4 g4
      have hb24 := hb3.trans (hb4.mono hb3.size)
      have hball := HB2.out.trans (hb24.mono HB2.out.size)
      have hs2 := HB2.out.size
      have hs3 := hb3.size
      obtain ⟨k0, f0⟩ := box_later hball rfl 0
      obtain ⟨k1, f1⟩ := box_later hball rfl 1
      obtain ⟨k2, f2⟩ := box_later hball rfl 2
      simp at k0 k1 k2 hs2
      obtain ⟨a1, n1, c1, rfl⟩ := HV3.out.form
      obtain ⟨a2, n2, c2, rfl⟩ := HV4.out.form
      have HV3 := Lib.hid (HV3.out.keep hb4)
      have HBA := Lib.hid hball
      clear hball hb24 hb3 hb4
      go_wp2_with fail
      have hbw : Below w.heap.size w w4 := ((Below.refl _ _).alloc (Nat.le_refl _) _).trans (HBA.out.mono (by simp))
      refine bodyPost_ret (v := .agg #[.bool neg, .slice a1 n1 c1, .slice a2 n2 c2]) (by simp [results, Try.results46, go_sem, k0, k1, k2]) rfl ?_
      refine ⟨_, rfl, ⟨.slice a1 n1 c1, .slice a2 n2 c2, ?_, ?_, ?_⟩, below_put3 hbw (Nat.le_refl _) _ _ _⟩
      · rw [HP.out.1, sg_neg HP.out.2.2.2.1]
      · rw [HP.out.1, sg_abs (Int.le_of_lt HP.out.2.2.2.1)]
        exact ((HV3.out.mono (base' := w.heap.size + 1) (by omega)).put3 (by omega) _ _ _).mono (by omega)
      · rw [HP.out.2.1]
        exact ((HV4.out.mono (base' := w.heap.size + 1) (by omega)).put3 (by omega) _ _ _).mono (by omega)
end Go.Proofs.Ytpplleoiehnlkaa.Nt
