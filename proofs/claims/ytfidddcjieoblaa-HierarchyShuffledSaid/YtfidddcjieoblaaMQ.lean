/-
  QPlain, Q, Q2, in one text: see the remarks at the head of each part.
-/
import Derived.Test.YtfidddcjieoblaaMSame
import Derived.Deep.RegionHeld3
/-
  Plain mathematics of rational numbers in lowest terms, for the walks of the fractions. No program in sight.
-/
namespace Go.Proofs.Ytfidddcjieoblaa.Nt
set_option linter.unusedVariables false

/-- a number with its sign -/
def sg (neg : Bool) (n : Int) : Int := if neg then -n else n
/-- the rational number that a sign, a numerator and a denominator denote (0 if the denominator is 0) -/
def mk (neg : Bool) (n d : Int) : Rat := mkRat (sg neg n) d.toNat
/-- both parts have at most c digits -/
def Qb (c : Nat) (q : Rat) : Prop := (q.num.natAbs : Int) < Bp c ∧ (q.den : Int) < Bp c
/-- the sign of a rational number -/
def sgQ (q : Rat) : Int := q.num.sign
def cmpQ (p q : Rat) : Int := sgQ (p - q)

theorem Qb.mono {c d : Nat} {q : Rat} (h : Qb c q) (hd : c ≤ d) : Qb d q := by
  have := Bp_mono hd
  have := h.1
  have := h.2
  exact ⟨by omega, by omega⟩
theorem sg_natAbs (neg : Bool) (n : Int) : (sg neg n).natAbs = n.natAbs := by cases neg <;> simp [sg]
theorem mk_zero {neg : Bool} {n d : Int} (h : n = 0 ∨ d = 0) : mk neg n d = 0 := by
  unfold mk
  rcases h with rfl | rfl
  · have : sg neg 0 = 0 := by cases neg <;> rfl
    rw [this, Rat.zero_mkRat]
  · exact Rat.mkRat_zero _
theorem gcdI_nat (a b : Nat) : gcdI (a : Int) (b : Int) = ((Nat.gcd a b : Nat) : Int) := rfl
/-- numerator and denominator of a fraction in lowest terms -/
theorem mk_parts {neg : Bool} {n d : Int} (hn : 0 < n) (hd : 0 < d) : (mk neg n d).num = sg neg (n / gcdI n d) ∧ ((mk neg n d).den : Int) = d / gcdI n d ∧ 0 < gcdI n d ∧ 0 < n / gcdI n d ∧ 0 < d / gcdI n d := by
  obtain ⟨a, rfl⟩ := Int.eq_ofNat_of_zero_le (show 0 ≤ n by omega)
  obtain ⟨b, rfl⟩ := Int.eq_ofNat_of_zero_le (show 0 ≤ d by omega)
  have hg : 0 < Nat.gcd a b := Nat.gcd_pos_of_pos_left b (by omega)
  have h1 : Nat.gcd a b ∣ a := Nat.gcd_dvd_left a b
  have h2 : Nat.gcd a b ∣ b := Nat.gcd_dvd_right a b
  rw [gcdI_nat]
  have p1 : 0 < a / Nat.gcd a b := Nat.div_pos (Nat.le_of_dvd (by omega) h1) hg
  have p2 : 0 < b / Nat.gcd a b := Nat.div_pos (Nat.le_of_dvd (by omega) h2) hg
  refine ⟨?_, ?_, by omega, by rw [← Int.natCast_ediv]; omega, by rw [← Int.natCast_ediv]; omega⟩
  · unfold mk
    rw [Rat.num_mkRat, Int.toNat_natCast, if_neg (by omega), sg_natAbs, Int.natAbs_natCast, Nat.gcd_comm]
    cases neg
    · rfl
    · show -(a : Int) / _ = -((a : Int) / _)
      exact Int.neg_ediv_of_dvd (Int.natCast_dvd_natCast.2 h1)
  · unfold mk
    rw [Rat.den_mkRat, Int.toNat_natCast, if_neg (by omega), sg_natAbs, Int.natAbs_natCast, Nat.gcd_comm, Int.natCast_ediv]
theorem sg_neg {neg : Bool} {n : Int} (h : 0 < n) : decide (sg neg n < 0) = neg := by
  cases neg <;> simp [sg] <;> omega
theorem sg_abs {neg : Bool} {n : Int} (h : 0 ≤ n) : ((sg neg n).natAbs : Int) = n := by
  cases neg <;> simp [sg] <;> omega
/-- a number from its own parts -/
theorem mk_self (q : Rat) : mk (decide (q.num < 0)) (q.num.natAbs : Int) (q.den : Int) = q := by
  unfold mk
  have : sg (decide (q.num < 0)) (q.num.natAbs : Int) = q.num := by
    unfold sg
    by_cases h : q.num < 0
    · rw [decide_eq_true h, if_pos rfl]; omega
    · rw [decide_eq_false h]; simp; omega
  rw [this, Int.toNat_natCast, Rat.mkRat_self]
theorem mk_mul (p r : Bool) (a b c d : Int) (hb : 0 ≤ b) (hd : 0 ≤ d) : mk p a b * mk r c d = mk (p != r) (a * c) (b * d) := by
  unfold mk
  rw [Rat.mkRat_mul_mkRat]
  have e : (b * d).toNat = b.toNat * d.toNat := by
    obtain ⟨x, rfl⟩ := Int.eq_ofNat_of_zero_le hb
    obtain ⟨y, rfl⟩ := Int.eq_ofNat_of_zero_le hd
    rw [← Int.natCast_mul, Int.toNat_natCast, Int.toNat_natCast, Int.toNat_natCast]
  rw [e]
  congr 1
  cases p <;> cases r <;> simp [sg, Int.mul_neg, Int.neg_mul]
theorem mk_neg (p : Bool) (a b : Int) : -mk p a b = mk (!p) a b := by
  unfold mk
  rw [Rat.neg_mkRat]
  congr 1
  cases p <;> simp [sg]
theorem toNat_ne {b : Int} (hb : 0 < b) : b.toNat ≠ 0 := by omega
theorem mk_add (p r : Bool) (a b c d : Int) (hb : 0 < b) (hd : 0 < d) : mk p a b + mk r c d = mkRat (sg p a * d + sg r c * b) (b.toNat * d.toNat) := by
  unfold mk
  rw [Rat.mkRat_add_mkRat _ _ (toNat_ne hb) (toNat_ne hd)]
  congr 1
  rw [Int.toNat_of_nonneg (by omega), Int.toNat_of_nonneg (by omega)]
theorem mk_add_same (p r : Bool) (a b c : Int) (hb : 0 < b) : mk p a b + mk r c b = mkRat (sg p a + sg r c) b.toNat := by
  rw [mk_add p r a b c b hb hb, ← Int.add_mul]
  have := Rat.mkRat_mul_right (n := sg p a + sg r c) (d := b.toNat) (a := b.toNat) (toNat_ne hb)
  rw [Int.toNat_of_nonneg (by omega)] at this
  exact this
theorem dvd_abs {g : Nat} {n : Int} (h : g ∣ n.natAbs) : (g : Int) ∣ n := by
  obtain ⟨k, hk⟩ := h
  rcases Int.natAbs_eq n with e | e
  · exact ⟨k, by rw [e, hk]; simp⟩
  · exact ⟨-(k : Int), by rw [e, hk]; simp [Int.mul_neg]⟩
theorem mkRat_sign (n : Int) (d : Nat) (hd : d ≠ 0) : (mkRat n d).num.sign = n.sign := by
  rw [Rat.num_mkRat, if_neg hd]
  have hg : 0 < d.gcd n.natAbs := Nat.gcd_pos_of_pos_left _ (by omega)
  have h1 : ((d.gcd n.natAbs : Nat) : Int) ∣ n := dvd_abs (Nat.gcd_dvd_right ..)
  obtain ⟨k, hk⟩ := h1
  generalize d.gcd n.natAbs = g at *
  subst hk
  rw [Int.mul_ediv_cancel_left _ (by omega), Int.sign_mul, Int.sign_natCast_of_ne_zero (by omega), Int.one_mul]
theorem sgQ_mk {neg : Bool} {n d : Int} (hn : 0 < n) (hd : 0 < d) : sgQ (mk neg n d) = if neg then -1 else 1 := by
  unfold sgQ mk
  rw [mkRat_sign _ _ (toNat_ne hd)]
  cases neg
  · simp [sg, Int.sign_eq_one_of_pos hn]
  · simp [sg, Int.sign_eq_one_of_pos hn]
theorem sgQ_zero : sgQ 0 = 0 := rfl
theorem sgQ_mul (p q : Rat) : sgQ (p * q) = sgQ p * sgQ q := by
  unfold sgQ
  rw [Rat.mul_def', mkRat_sign _ _ (by have := p.den_nz; have := q.den_nz; exact Nat.mul_ne_zero ‹_› ‹_›), Int.sign_mul]
theorem sgQ_neg (p : Rat) : sgQ (-p) = -sgQ p := by unfold sgQ; rw [Rat.neg_num, Int.sign_neg]
theorem sgQ_eq_zero {p : Rat} : sgQ p = 0 ↔ p = 0 := by
  unfold sgQ
  rw [Int.sign_eq_zero_iff_zero, Rat.num_eq_zero]
theorem sgQ_cases (p : Rat) : sgQ p = -1 ∨ sgQ p = 0 ∨ sgQ p = 1 := by
  unfold sgQ
  rcases Int.lt_trichotomy p.num 0 with h | h | h
  · exact .inl (Int.sign_eq_neg_one_of_neg h)
  · exact .inr (.inl (by rw [h]; rfl))
  · exact .inr (.inr (Int.sign_eq_one_of_pos h))

/-- bounds -/
theorem mkRat_b {n : Int} {d c : Nat} (hn : (n.natAbs : Int) < Bp c) (hd : (d : Int) < Bp c) (hc : 1 ≤ c) : Qb c (mkRat n d) := by
  have hB := Bp_mono hc
  have h1 : Bp 1 = 4294967296 := by decide
  by_cases h0 : d = 0
  · subst h0
    rw [Rat.mkRat_zero]
    exact ⟨by show (0 : Int) < _; omega, by show (1 : Int) < _; omega⟩
  · have hg : 0 < d.gcd n.natAbs := Nat.gcd_pos_of_pos_left _ (by omega)
    have g1 : ((d.gcd n.natAbs : Nat) : Int) ∣ n := dvd_abs (Nat.gcd_dvd_right ..)
    refine ⟨?_, ?_⟩
    · rw [Rat.num_mkRat, if_neg h0]
      obtain ⟨k, hk⟩ := g1
      generalize d.gcd n.natAbs = g at *
      rw [hk, Int.mul_ediv_cancel_left _ (by omega)]
      have : n.natAbs = g * k.natAbs := by rw [hk, Int.natAbs_mul, Int.natAbs_natCast]
      have h3 : k.natAbs ≤ g * k.natAbs := Nat.le_mul_of_pos_left _ hg
      omega
    · rw [Rat.den_mkRat, if_neg h0]
      have := Nat.div_le_self d (d.gcd n.natAbs)
      omega
theorem mk_b {neg : Bool} {n d : Int} {c : Nat} (h0 : 0 ≤ n) (hn : n < Bp c) (hd : d < Bp c) (hc : 1 ≤ c) : Qb c (mk neg n d) :=
  mkRat_b (by rw [sg_abs h0]; exact hn) (by have := Bp_pos c; omega) hc
theorem Qb.neg {c : Nat} {q : Rat} (h : Qb c q) : Qb c (-q) := ⟨by rw [Rat.neg_num, Int.natAbs_neg]; exact h.1, h.2⟩
theorem Qb.mul {c d : Nat} {p q : Rat} (hp : Qb c p) (hq : Qb d q) (hc : 1 ≤ c) : Qb (c + d) (p * q) := by
  rw [Rat.mul_def']
  refine mkRat_b ?_ ?_ (by omega)
  · rw [Int.natAbs_mul, Int.natCast_mul]
    exact bp_mul (by omega) hp.1 (by omega) hq.1
  · rw [Int.natCast_mul]
    exact bp_mul (by omega) hp.2 (by omega) hq.2
theorem Qb.add {c d : Nat} {p q : Rat} (hp : Qb c p) (hq : Qb d q) : Qb (c + d + 1) (p + q) := by
  rw [Rat.add_def']
  refine mkRat_b ?_ ?_ (by omega)
  · have h1 := bp_mul (x := (p.num.natAbs : Int)) (y := (q.den : Int)) (by omega) hp.1 (by omega) hq.2
    have h2 := bp_mul (x := (p.den : Int)) (y := (q.num.natAbs : Int)) (by omega) hp.2 (by omega) hq.1
    have h3 := Int.natAbs_add_le (p.num * q.den) (q.num * p.den)
    rw [Int.natAbs_mul, Int.natAbs_mul, Int.natAbs_natCast, Int.natAbs_natCast] at h3
    have h4 : ((p.num * q.den + q.num * p.den).natAbs : Int) ≤ (p.num.natAbs : Int) * (q.den : Int) + (p.den : Int) * (q.num.natAbs : Int) := by
      rw [Int.mul_comm (p.den : Int), ← Int.natCast_mul, ← Int.natCast_mul, ← Int.natCast_add]
      exact Int.ofNat_le.2 h3
    rw [Bp]
    have := Bp_pos (c + d)
    omega
  · rw [Int.natCast_mul]
    have := bp_mul (x := (p.den : Int)) (y := (q.den : Int)) (by omega) hp.2 (by omega) hq.2
    have := Bp_mono (show c + d ≤ c + d + 1 by omega)
    omega
theorem Qb.sub {c d : Nat} {p q : Rat} (hp : Qb c p) (hq : Qb d q) : Qb (c + d + 1) (p - q) := by
  rw [Rat.sub_eq_add_neg]; exact hp.add hq.neg
theorem Qb.zero : Qb 1 0 := by unfold Qb; decide
theorem Qb.one : Qb 1 1 := by unfold Qb; decide

/-- the comparison of two fractions by their cross products -/
theorem cmpI_sign (x y : Int) : cmpI x y = (x - y).sign := by
  unfold cmpI
  rcases Int.lt_trichotomy x y with h | h | h
  · rw [if_pos h, Int.sign_eq_neg_one_of_neg (by omega)]
  · subst h; simp
  · rw [if_neg (by omega), if_neg (by omega), Int.sign_eq_one_of_pos (by omega)]
theorem cmpQ_mk {p r : Bool} {a b c d : Int} (hb : 0 < b) (hd : 0 < d) : cmpQ (mk p a b) (mk r c d) = (sg p a * d - sg r c * b).sign := by
  unfold cmpQ sgQ
  rw [Rat.sub_eq_add_neg, mk_neg, mk_add p (!r) a b c d hb hd, mkRat_sign _ _ (Nat.mul_ne_zero (toNat_ne hb) (toNat_ne hd))]
  congr 1
  have : sg (!r) c = - sg r c := by cases r <;> simp [sg]
  rw [this, Int.neg_mul]
  omega
end Go.Proofs.Ytfidddcjieoblaa.Nt

/-
  What it means that a Go value of type api.Frac reads as a rational number; contracts of rational.zero, isOne and reduce.
-/
namespace Go.Proofs.Ytfidddcjieoblaa.Nt
open Go.ChangeShapes Go.WideShapes Go.ChangeAt Go.RowKit B
set_option linter.unusedVariables false

theorem IsNew.form {base : Nat} {w : World} {v : Value} {n : Int} (h : IsNew base w v n) : ∃ a len cap, v = .slice a len cap := by
  obtain ⟨l, h1, _⟩ := h
  obtain ⟨a, cap, rfl, _⟩ := Row.parts h1
  exact ⟨a, _, cap, rfl⟩
theorem Num.form {w : World} {v : Value} {c : Nat} {n : Int} (h : Num w v c n) : ∃ a len cap, v = .slice a len cap := by
  obtain ⟨l, h1, _⟩ := h
  obtain ⟨a, cap, rfl, _⟩ := Row.parts h1
  exact ⟨a, _, cap, rfl⟩
/-- a canonical fraction in new memory -/
def IsQ (base : Nat) (w : World) (v : Value) (q : Rat) : Prop :=
  ∃ vn vd, v = .agg #[.bool (decide (q.num < 0)), vn, vd] ∧ IsNew base w vn (q.num.natAbs : Int) ∧ IsNew base w vd (q.den : Int)
/-- a fraction, canonical or not, whose parts have at most c digits -/
def Raw (w : World) (v : Value) (c : Nat) (q : Rat) : Prop :=
  ∃ neg vn vd n d, v = .agg #[.bool neg, vn, vd] ∧ Num w vn c n ∧ Num w vd c d ∧ q = mk neg n d
/-- a call that returns a canonical fraction -/
def RetQ (base : Nat) (w : World) (q : Rat) (e : Ending) (w' : World) : Prop := ∃ v, e = .returned v ∧ IsQ base w' v q ∧ Below base w w'

theorem IsQ.keep {base : Nat} {w w' : World} {v : Value} {q : Rat} (h : IsQ base w v q) (hb : Below w.heap.size w w') : IsQ base w' v q := by
  obtain ⟨vn, vd, h1, h2, h3⟩ := h
  exact ⟨vn, vd, h1, h2.keep hb, h3.keep hb⟩
theorem IsQ.mono {base base' : Nat} {w : World} {v : Value} {q : Rat} (h : IsQ base w v q) (hb : base' ≤ base) : IsQ base' w v q := by
  obtain ⟨vn, vd, h1, h2, h3⟩ := h
  exact ⟨vn, vd, h1, h2.mono hb, h3.mono hb⟩
theorem IsQ.raw {base : Nat} {w : World} {v : Value} {q : Rat} (h : IsQ base w v q) (c : Nat) (hc : Qb c q) : Raw w v c q := by
  obtain ⟨vn, vd, h1, h2, h3⟩ := h
  exact ⟨_, vn, vd, _, _, h1, h2.num c hc.1, h3.num c hc.2, (mk_self q).symm⟩
theorem Raw.keep {w w' : World} {v : Value} {c : Nat} {q : Rat} (h : Raw w v c q) (hb : Below w.heap.size w w') : Raw w' v c q := by
  obtain ⟨neg, vn, vd, n, d, h1, h2, h3, h4⟩ := h
  exact ⟨neg, vn, vd, n, d, h1, h2.keep hb, h3.keep hb, h4⟩
theorem Raw.mono {w : World} {v : Value} {c c' : Nat} {q : Rat} (h : Raw w v c q) (hc : c ≤ c') : Raw w v c' q := by
  obtain ⟨neg, vn, vd, n, d, h1, h2, h3, h4⟩ := h
  exact ⟨neg, vn, vd, n, d, h1, h2.mono hc, h3.mono hc, h4⟩
/-- the zero value of api.Frac -/
theorem Raw.zero (w : World) (c : Nat) : Raw w (.agg #[.bool false, .slice none 0 0, .slice none 0 0]) c 0 :=
  ⟨false, _, _, 0, 0, rfl, ⟨[], Row.nil _ _, by simp, rfl⟩, ⟨[], Row.nil _ _, by simp, rfl⟩, (mk_zero (.inl rfl)).symm⟩

/-- the cells of a struct in a block that was just made stay while only newer blocks are written -/
theorem box_later {w w1 w' : World} {C : Array Value} {t : TypeId} (hb : Below w1.heap.size w1 w') (h1 : w1 = w.alloc (.cells C t (0, 0))) (i : Nat) :
    w'.cell? ⟨w.heap.size, i, none⟩ = C[i]? ∧ w'.frozen? ⟨w.heap.size, i, none⟩ = false := by
  subst h1
  refine ⟨?_, ?_⟩
  · rw [hb.cell (p := ⟨w.heap.size, i, none⟩) (by simp), World.cell?_alloc_mark]
  · rw [hb.frozen (p := ⟨w.heap.size, i, none⟩) (by simp), World.frozen?_alloc_mark]; simp

theorem IsNew.put {w : World} {g base : Nat} {v : Value} {n : Int} (h : IsNew base w v n) (hg : g < base) (i : Nat) (x : Value) : IsNew base (w.setCell ⟨g, i, none⟩ x) v n := by
  have hh : ∀ b, b ≠ g → (w.setCell ⟨g, i, none⟩ x).heap[b]? = w.heap[b]? := fun b hb => Below.heap_setCell w ⟨g, i, none⟩ x b hb
  obtain ⟨l, h1, h2, h3, h4⟩ := h
  refine ⟨l, Row.of_heap h1 ?_, h2, h3, ?_⟩
  · rintro b off sp m c rfl
    obtain ⟨q1, _⟩ := h4 b off sp m c rfl
    exact hh b (by omega)
  · rintro b off sp m c rfl
    obtain ⟨q1, cs, q2⟩ := h4 b off sp m c rfl
    exact ⟨q1, cs, by rw [hh b (by omega)]; exact q2⟩
theorem IsNew.put3 {w : World} {g base : Nat} {v : Value} {n : Int} (h : IsNew base w v n) (hg : g < base) (x y z : Value) :
    IsNew base (((w.setCell ⟨g, 0, none⟩ x).setCell ⟨g, 1, none⟩ y).setCell ⟨g, 2, none⟩ z) v n := ((h.put hg 0 x).put hg 1 y).put hg 2 z
/-- a fraction that was stored in the cell of a result -/
theorem IsQ.stored {w0 w : World} {g base : Nat} {v : Value} {q : Rat} {x y z : Value} (h : IsQ base w v q) (hg : g < base) : IsQ base (((w.setCell ⟨g, 0, none⟩ x).setCell ⟨g, 1, none⟩ y).setCell ⟨g, 2, none⟩ z) v q := by
  obtain ⟨vn, vd, h1, h2, h3⟩ := h
  exact ⟨vn, vd, h1, h2.put3 hg _ _ _, h3.put3 hg _ _ _⟩
theorem below_put3 {B g : Nat} {a w : World} (h : Below B a w) (hg : B ≤ g) (x y z : Value) : Below B a (((w.setCell ⟨g, 0, none⟩ x).setCell ⟨g, 1, none⟩ y).setCell ⟨g, 2, none⟩ z) :=
  ((h.setCell (p := ⟨g, 0, none⟩) hg x).setCell (p := ⟨g, 1, none⟩) hg y).setCell (p := ⟨g, 2, none⟩) hg z

theorem IsQ.form {base : Nat} {w : World} {v : Value} {q : Rat} (h : IsQ base w v q) : ∃ b a1 n1 c1 a2 n2 c2, v = .agg #[.bool b, .slice a1 n1 c1, .slice a2 n2 c2] := by
  obtain ⟨vn, vd, rfl, h1, h2⟩ := h
  obtain ⟨a1, n1, c1, rfl⟩ := h1.form
  obtain ⟨a2, n2, c2, rfl⟩ := h2.form
  exact ⟨_, a1, n1, c1, a2, n2, c2, rfl⟩

end Go.Proofs.Ytfidddcjieoblaa.Nt

/-
  Contracts of rational.Normalize, Sign, opposite, one, Mul.
-/
namespace Go.Proofs.Ytfidddcjieoblaa.Nt
open Go.ChangeShapes Go.WideShapes Go.ChangeAt Go.RowKit B
set_option linter.unusedVariables false

theorem cell_lt {w : World} {a : Addr} {v : Value} (h : w.cell? a = some v) : a.block < w.heap.size := by
  unfold World.cell? at h
  rcases Nat.lt_or_ge a.block w.heap.size with hb | hb
  · exact hb
  · simp [Array.getElem?_eq_none hb] at h
theorem cell_keep {W w' : World} (hb : Below W.heap.size W w') {a : Addr} {v : Value} (h : W.cell? a = some v) : w'.cell? a = some v := by
  rw [hb.cell (p := a) (cell_lt h)]; exact h
theorem frozen_keep {W w' : World} (hb : Below W.heap.size W w') {a : Addr} {v : Value} (h : W.cell? a = some v) (hf : W.frozen? a = false) : w'.frozen? a = false := by
  rw [hb.frozen (p := a) (cell_lt h)]; exact hf
theorem keep6 {W w' : World} {a b c d e f : Addr} {x y z X Y Z : Value} (hb : Below W.heap.size W w') (h : W.cell? a = some x ∧ W.cell? b = some y ∧ W.cell? c = some z ∧ W.cell? d = some X ∧ W.cell? e = some Y ∧ W.cell? f = some Z) :
    w'.cell? a = some x ∧ w'.cell? b = some y ∧ w'.cell? c = some z ∧ w'.cell? d = some X ∧ w'.cell? e = some Y ∧ w'.cell? f = some Z :=
  ⟨cell_keep hb h.1, cell_keep hb h.2.1, cell_keep hb h.2.2.1, cell_keep hb h.2.2.2.1, cell_keep hb h.2.2.2.2.1, cell_keep hb h.2.2.2.2.2⟩
theorem put3_far {W : World} {g : Nat} {x0 x1 x2 v : Value} {a : Addr} (h : W.cell? a = some v) (ha : a.block ≠ g) : (((W.setCell ⟨g, 0, none⟩ x0).setCell ⟨g, 1, none⟩ x1).setCell ⟨g, 2, none⟩ x2).cell? a = some v := by
  rw [World.cell?_setCell_far _ _ _ _ (Ne.symm ha), World.cell?_setCell_far _ _ _ _ (Ne.symm ha), World.cell?_setCell_far _ _ _ _ (Ne.symm ha)]; exact h
theorem keep6p {W : World} {g : Nat} {x0 x1 x2 : Value} {a b c d e f : Addr} {x y z X Y Z : Value} (h : W.cell? a = some x ∧ W.cell? b = some y ∧ W.cell? c = some z ∧ W.cell? d = some X ∧ W.cell? e = some Y ∧ W.cell? f = some Z)
    (ha : a.block ≠ g) (hb : b.block ≠ g) (hc : c.block ≠ g) (hd : d.block ≠ g) (he : e.block ≠ g) (hf : f.block ≠ g) :
    (((W.setCell ⟨g, 0, none⟩ x0).setCell ⟨g, 1, none⟩ x1).setCell ⟨g, 2, none⟩ x2).cell? a = some x ∧ (((W.setCell ⟨g, 0, none⟩ x0).setCell ⟨g, 1, none⟩ x1).setCell ⟨g, 2, none⟩ x2).cell? b = some y ∧
    (((W.setCell ⟨g, 0, none⟩ x0).setCell ⟨g, 1, none⟩ x1).setCell ⟨g, 2, none⟩ x2).cell? c = some z ∧ (((W.setCell ⟨g, 0, none⟩ x0).setCell ⟨g, 1, none⟩ x1).setCell ⟨g, 2, none⟩ x2).cell? d = some X ∧
    (((W.setCell ⟨g, 0, none⟩ x0).setCell ⟨g, 1, none⟩ x1).setCell ⟨g, 2, none⟩ x2).cell? e = some Y ∧ (((W.setCell ⟨g, 0, none⟩ x0).setCell ⟨g, 1, none⟩ x1).setCell ⟨g, 2, none⟩ x2).cell? f = some Z :=
  ⟨put3_far h.1 ha, put3_far h.2.1 hb, put3_far h.2.2.1 hc, put3_far h.2.2.2.1 hd, put3_far h.2.2.2.2.1 he, put3_far h.2.2.2.2.2 hf⟩
theorem keep3 {W w' : World} {a b c : Addr} {x y z : Value} (hb : Below W.heap.size W w') (h : W.cell? a = some x ∧ W.cell? b = some y ∧ W.cell? c = some z) :
    w'.cell? a = some x ∧ w'.cell? b = some y ∧ w'.cell? c = some z := ⟨cell_keep hb h.1, cell_keep hb h.2.1, cell_keep hb h.2.2⟩
/-- three cells of a block that may be written -/
def Box3 (w : World) (k : Nat) (x y z : Value) : Prop :=
  (w.cell? ⟨k, 0, none⟩ = some x ∧ w.cell? ⟨k, 1, none⟩ = some y ∧ w.cell? ⟨k, 2, none⟩ = some z) ∧ w.frozen? ⟨k, 0, none⟩ = false ∧ w.frozen? ⟨k, 1, none⟩ = false ∧ w.frozen? ⟨k, 2, none⟩ = false
theorem Box3.keep {W w' : World} {k : Nat} {x y z : Value} (h : Box3 W k x y z) (hb : Below W.heap.size W w') : Box3 w' k x y z :=
  ⟨⟨cell_keep hb h.1.1, cell_keep hb h.1.2.1, cell_keep hb h.1.2.2⟩, frozen_keep hb h.1.1 h.2.1, frozen_keep hb h.1.2.1 h.2.2.1, frozen_keep hb h.1.2.2 h.2.2.2⟩
theorem Box3.new (w : World) (x y z : Value) (t : TypeId) : Box3 (w.alloc (.cells #[x, y, z] t (0, 0))) w.heap.size x y z := by
  refine ⟨⟨?_, ?_, ?_⟩, ?_, ?_, ?_⟩
  · rw [World.cell?_alloc_mark]; rfl
  · rw [World.cell?_alloc_mark]; rfl
  · rw [World.cell?_alloc_mark]; rfl
  all_goals rw [World.frozen?_alloc_mark]; simp
theorem Box3.old {w : World} {k : Nat} {x y z : Value} (h : Box3 w k x y z) (o : Obj) : Box3 (w.alloc o) k x y z := h.keep ((Below.refl _ _).alloc (Nat.le_refl _) o)
theorem alloc_below (w : World) (o : Obj) : Below w.heap.size w (w.alloc o) := (Below.refl _ _).alloc (Nat.le_refl _) o

theorem size_alloc (w : World) (o : Obj) : (w.alloc o).heap.size = w.heap.size + 1 := by simp
/-- the boxes of one fraction, and of a fraction and the result -/
theorem pro1 (w : World) (x y z : Value) (t : TypeId) : Box3 (w.alloc (.cells #[x, y, z] t (0, 0))) w.heap.size x y z ∧ Below w.heap.size w (w.alloc (.cells #[x, y, z] t (0, 0))) ∧ (w.alloc (.cells #[x, y, z] t (0, 0))).heap.size = w.heap.size + 1 :=
  ⟨Box3.new w x y z t, alloc_below _ _, size_alloc _ _⟩
theorem pro2 (w : World) (x y z X Y Z : Value) (t s : TypeId) :
    Box3 ((w.alloc (.cells #[x, y, z] t (0, 0))).alloc (.cells #[X, Y, Z] s (0, 0))) w.heap.size x y z ∧ Box3 ((w.alloc (.cells #[x, y, z] t (0, 0))).alloc (.cells #[X, Y, Z] s (0, 0))) (w.heap.size + 1) X Y Z ∧
    Below w.heap.size w ((w.alloc (.cells #[x, y, z] t (0, 0))).alloc (.cells #[X, Y, Z] s (0, 0))) ∧ ((w.alloc (.cells #[x, y, z] t (0, 0))).alloc (.cells #[X, Y, Z] s (0, 0))).heap.size = w.heap.size + 2 := by
  obtain ⟨h1, h2, h3⟩ := pro1 w x y z t
  obtain ⟨g1, g2, g3⟩ := pro1 (w.alloc (.cells #[x, y, z] t (0, 0))) X Y Z s
  rw [h3] at g1 g3
  exact ⟨h1.old _, g1, h2.alloc (by omega) _, g3⟩
theorem pro3 (w : World) (x y z X Y Z P Q R : Value) (t s u : TypeId) :
    Box3 (((w.alloc (.cells #[x, y, z] t (0, 0))).alloc (.cells #[X, Y, Z] s (0, 0))).alloc (.cells #[P, Q, R] u (0, 0))) w.heap.size x y z ∧ Box3 (((w.alloc (.cells #[x, y, z] t (0, 0))).alloc (.cells #[X, Y, Z] s (0, 0))).alloc (.cells #[P, Q, R] u (0, 0))) (w.heap.size + 1) X Y Z ∧
    Box3 (((w.alloc (.cells #[x, y, z] t (0, 0))).alloc (.cells #[X, Y, Z] s (0, 0))).alloc (.cells #[P, Q, R] u (0, 0))) (w.heap.size + 2) P Q R ∧
    Below w.heap.size w (((w.alloc (.cells #[x, y, z] t (0, 0))).alloc (.cells #[X, Y, Z] s (0, 0))).alloc (.cells #[P, Q, R] u (0, 0))) ∧ (((w.alloc (.cells #[x, y, z] t (0, 0))).alloc (.cells #[X, Y, Z] s (0, 0))).alloc (.cells #[P, Q, R] u (0, 0))).heap.size = w.heap.size + 3 := by
  obtain ⟨h1, h2, h3, h4⟩ := pro2 w x y z X Y Z t s
  obtain ⟨g1, g2, g3⟩ := pro1 ((w.alloc (.cells #[x, y, z] t (0, 0))).alloc (.cells #[X, Y, Z] s (0, 0))) P Q R u
  rw [h4] at g1 g3
  exact ⟨h1.old _, h2.old _, g1, h3.alloc (by omega) _, g3⟩

/-- what a function that returns a fraction has to show at its end -/
theorem fin_q {w w2 : World} {g base : Nat} {v : Value} {q : Rat} {x y z : Value} (h : IsQ base w2 v q) (hg : g < base) (hb : Below w.heap.size w w2) (hw : w.heap.size ≤ g) :
    RetQ w.heap.size w q (.returned v) (((w2.setCell ⟨g, 0, none⟩ x).setCell ⟨g, 1, none⟩ y).setCell ⟨g, 2, none⟩ z) :=
  ⟨v, rfl, (h.stored (w0 := w) hg).mono (by omega), below_put3 hb hw _ _ _⟩

/-- a call that returns a fraction as it is -/
def RetRaw (w : World) (c : Nat) (q : Rat) (e : Ending) (w' : World) : Prop := ∃ v, e = .returned v ∧ Raw w' v c q ∧ Below w.heap.size w w'
theorem wf_i64' {n : Int} (h : (Lit.int .i64 n).wf = true) : -9223372036854775808 ≤ n ∧ n ≤ 9223372036854775807 := by
  simpa [Lit.wf, IntKind.min, IntKind.max, IntKind.signed, IntKind.bits] using h
end Go.Proofs.Ytfidddcjieoblaa.Nt
