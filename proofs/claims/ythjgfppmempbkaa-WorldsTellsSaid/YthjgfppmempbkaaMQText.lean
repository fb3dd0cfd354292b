/-
  QFmt, QParse, QParse2, in one text: see the remarks at the head of each part.
-/
import Derived.Test.YthjgfppmempbkaaMQ
import Derived.Test.YthjgfppmempbkaaMQMul
import Derived.Test.YthjgfppmempbkaaMRefH
/-
  Contract of rational.Format.
-/
namespace Go.Proofs.Ythjgfppmempbkaa.Nt
open Go.ChangeShapes Go.WideShapes Go.ChangeAt Go.RowKit B
set_option linter.unusedVariables false

theorem dec_size {s : ByteArray} {n : Int} {c : Nat} (h : IsDec s n) (hn : n < Bp c) : s.size ≤ 32 * c + 1 := by
  rcases h with ⟨_, rfl⟩ | ⟨h0, l, h1, h2, rfl⟩
  · have : (⟨#[48]⟩ : ByteArray).size = 1 := rfl
    omega
  · have hs : (decS l).size = l.length := by simp [decS, decB, ByteArray.size]
    rcases hl : l.length with _ | k
    · omega
    · have hp : p10 k ≤ n := by
        obtain ⟨m, x, rfl⟩ : ∃ m x, l = m ++ [x] := ⟨l.dropLast, l.getLast (by intro e; rw [e] at hl; simp at hl), (List.dropLast_concat_getLast _).symm⟩
        have hm : m.length = k := by simpa using hl
        rw [V10_snoc, hm] at h2
        have hx : x ≠ 0 := by intro e; subst e; exact h1.2 (by simp)
        have hx2 := h1.1 x (by simp)
        have hm0 : 0 ≤ V10 m := V10_nonneg (fun d hd => h1.1 d (by simp [hd]))
        have := Int.mul_le_mul_of_nonneg_left (show 1 ≤ x by omega) (show 0 ≤ p10 k by have := p10_pos k; omega)
        omega
      have := p10_len hp hn
      omega
/-- the text of a rational number -/
def IsFT (s : ByteArray) (q : Rat) : Prop :=
  ∃ t1 t2, IsDec t1 (q.num.natAbs : Int) ∧ IsDec t2 (q.den : Int) ∧
    s = if q.den = 1 then (if q.num < 0 then ⟨#[45]⟩ ++ t1 else t1) else (if q.num < 0 then ⟨#[45]⟩ ++ t1 else t1) ++ (⟨#[47]⟩ ++ t2)
theorem IsFT.unique {s t : ByteArray} {q : Rat} (h : IsFT s q) (k : IsFT t q) : s = t := by
  obtain ⟨t1, t2, h1, h2, rfl⟩ := h
  obtain ⟨u1, u2, k1, k2, rfl⟩ := k
  rw [IsDec.unique h1 k1, IsDec.unique h2 k2]
def RetFT (base : Nat) (w : World) (q : Rat) (e : Ending) (w' : World) : Prop := ∃ s, e = .returned (.string s) ∧ IsFT s q ∧ Below base w w'
theorem IsDec.one : IsDec ⟨#[49]⟩ 1 := .inr ⟨by decide, [1], ⟨by unfold D10; decide, by decide⟩, by decide, rfl⟩

set_option maxHeartbeats 2000000 in
theorem qFormat (va : Value) (c : Nat) (q : Rat) (w : World) (ha : Raw w va c q) (hc : c ≤ 1000000) (hq : Qb c q) :
    Calls Try.prog 33 #[va] w (RetFT w.heap.size w q) := by
  have HQB := Lib.hid hq
  have HRAW := Lib.hid ha
  obtain ⟨neg, vn, vd, n, d, rfl, hn, hd, _⟩ := ha
  obtain ⟨a1, n1, p1, rfl⟩ := hn.form
  obtain ⟨a2, n2, p2, rfl⟩ := hd.form
  have hW := alloc_below w (.cells #[.bool neg, .slice a1 n1 p1, .slice a2 n2 p2] 53 (0, 0))
  have HW := Lib.hid hW
  have HRW := Lib.hid (HRAW.out.keep hW)
  clear hn hd hq hW HRAW
  go_enter Try.func33, Try.ntmps33
  go_wp2_with fail
  refine (qNormalize _ c q _ HRW.out (by omega)).mono ?_
  rintro e w2 ⟨v, rfl, ⟨vn, vd, rfl, h1, h2⟩, hb2⟩
  obtain ⟨b1, m1, r1, rfl⟩ := h1.form
  obtain ⟨b2, m2, r2, rfl⟩ := h2.form
  have hbw2 : Below w.heap.size w w2 := HW.out.trans (hb2.mono (by simp))
  have hA2 := alloc_below w2 (.cells #[.bool (decide (q.num < 0)), .slice b1 m1 r1, .slice b2 m2 r2] 53 (0, 0))
  have H1 := Lib.hid (h1.keep hA2)
  have H2 := Lib.hid (h2.keep hA2)
  have HX := Lib.hid (Box3.new w2 (.bool (decide (q.num < 0))) (.slice b1 m1 r1) (.slice b2 m2 r2) 53)
  have hbw3 := hbw2.trans (hA2.mono hbw2.size)
  have hW3 : Below w2.heap.size w2 (w2.alloc (.cells #[.bool (decide (q.num < 0)), .slice b1 m1 r1, .slice b2 m2 r2] 53 (0, 0))) := hA2
  clear h1 h2 hA2 hb2
  generalize hNe : decide (q.num < 0) = ng at *
  generalize hWe : w2.alloc (.cells #[.bool ng, .slice b1 m1 r1, .slice b2 m2 r2] 53 (0, 0)) = w3 at *
  have HWE := Lib.hid hWe
  have HNE := Lib.hid hNe
  clear hWe hNe
  go_wp2_with fail
  rw [HWE.out]
  refine (Nt.format _ c _ w3 (H1.out.num c HQB.out.1) (by omega)).mono ?_
  rintro e w4 ⟨t1, rfl, ht1, hb4⟩
  have HT1 := Lib.hid ht1
  have hs1 := dec_size ht1 HQB.out.1
  have H24 := Lib.hid (H2.out.keep hb4)
  have hbw4 := hbw3.trans (hb4.mono hbw3.size)
  have HX4 := Lib.hid (HX.out.keep hb4)
  obtain ⟨⟨x0, x1, x2⟩, _, _, _⟩ := HX4.out
  have hsz45 : (⟨#[45]⟩ : ByteArray).size = 1 := rfl
  have hsz47 : (⟨#[47]⟩ : ByteArray).size = 1 := rfl
  clear ht1
  by_cases h1 : (q.den : Int) = 1
  · have HD1 := Lib.hid (show q.den = 1 by omega)
    have HDD := Lib.hid (show decide ((q.den : Int) = 1) = true by simpa using h1)
    clear h1
    rcases ng
    all_goals
      go_wp2_with fail
      refine (isOne _ _ w4 H24.out).mono ?_
      rintro e w' ⟨rfl, rfl⟩
      rw [HDD.out]
      go_wp2_with fail
      go_ret
      refine ⟨_, rfl, ⟨t1, ⟨#[49]⟩, HT1.out, by rw [HD1.out]; exact IsDec.one, ?_⟩, hbw4⟩
      rw [if_pos HD1.out]
      first | rw [if_pos (of_decide_eq_true HNE.out)] | rw [if_neg (of_decide_eq_false HNE.out)]
  · have HD1 := Lib.hid (show ¬ q.den = 1 by omega)
    have HDD := Lib.hid (show decide ((q.den : Int) = 1) = false by simpa using h1)
    clear h1
    rcases ng
    all_goals
      go_wp2_with fail
      refine (isOne _ _ w4 H24.out).mono ?_
      rintro e w' ⟨rfl, rfl⟩
      rw [HDD.out]
      go_wp2_with fail
      refine (Nt.format _ c _ w4 (H24.out.num c HQB.out.2) (by omega)).mono ?_
      rintro e w5 ⟨t2, rfl, ht2, hb5⟩
      have HT2 := Lib.hid ht2
      have hs2 := dec_size ht2 HQB.out.2
      clear ht2
      have hsa : (⟨#[47]⟩ ++ t2 : ByteArray).size = 1 + t2.size := by rw [ByteArray.size_append]; rfl
      have hsb : (⟨#[45]⟩ ++ t1 : ByteArray).size = 1 + t1.size := by rw [ByteArray.size_append]; rfl
      go_wp2_with fail
      go_ret
      refine ⟨_, rfl, ⟨t1, t2, HT1.out, HT2.out, ?_⟩, hbw4.trans (hb5.mono hbw4.size)⟩
      rw [if_neg HD1.out]
      first | rw [if_pos (of_decide_eq_true HNE.out)] | rw [if_neg (of_decide_eq_false HNE.out)]
end Go.Proofs.Ythjgfppmempbkaa.Nt

/-
  Contracts of rational.leadingDigits, digits and Parse.
-/
namespace Go.Proofs.Ythjgfppmempbkaa.Nt
open Go.ChangeShapes Go.WideShapes Go.ChangeAt Go.RowKit B
set_option linter.unusedVariables false

/-- how many decimal digits stand at the beginning -/
def ldig (b : List UInt8) : Nat := (b.takeWhile isD).length
theorem ldig_stop {b : List UInt8} {k : Nat} (hk : k ≤ b.length) (ha : (b.take k).all isD = true) (hs : k = b.length ∨ ∃ x, b[k]? = some x ∧ isD x = false) : ldig b = k := by
  unfold ldig
  induction b generalizing k with
  | nil => simp at hk; simp [hk]
  | cons c b ih =>
    rcases k with _ | k
    · rcases hs with h | ⟨x, h1, h2⟩
      · simp at h
      · simp at h1; subst h1; simp [h2]
    · simp at ha hk
      rw [List.takeWhile_cons, if_pos ha.1]
      simp only [List.length_cons]
      congr 1
      refine ih hk (by simpa using ha.2) ?_
      rcases hs with h | ⟨x, h1, h2⟩
      · left; simpa using h
      · right; exact ⟨x, by simpa using h1, h2⟩
theorem ldig_le (b : List UInt8) : ldig b ≤ b.length := by
  unfold ldig
  induction b with
  | nil => simp
  | cons c b ih => rw [List.takeWhile_cons]; split <;> simp <;> omega
theorem ldig_all (b : List UInt8) : (b.take (ldig b)).all isD = true := by
  unfold ldig
  induction b with
  | nil => simp
  | cons c b ih =>
    rw [List.takeWhile_cons]
    split
    · rename_i h
      simp only [List.length_cons, List.take_succ_cons, List.all_cons, h, Bool.true_and]; exact ih
    · simp
theorem dval_zero (b : List UInt8) : dval (48 :: b) = dval b := by
  unfold dval; rfl
theorem extract_list (t : ByteArray) (k : Nat) : (t.extract k t.size).data.toList = t.data.toList.drop k := by
  simp
  exact List.take_of_length_le (by simp)
/-- the parts of a text: sign, what follows it, the error number and the value -/
def fpN (b : List UInt8) : Bool := decide (b.head? = some 45)
def fpS (b : List UInt8) : List UInt8 := if fpN b then b.drop 1 else b
/-- the error number and the value of a text without its sign -/
def tC (L : List UInt8) : Int :=
  if ldig L = 0 then 2
  else if ldig L = L.length then 0
  else if (L[ldig L]? ≠ some 47 ∧ L[ldig L]? ≠ some 46) ∨ L.drop (ldig L + 1) = [] ∨ ldig (L.drop (ldig L + 1)) ≠ (L.drop (ldig L + 1)).length then 2
  else if L[ldig L]? = some 46 then 0
  else if dval (L.drop (ldig L + 1)) = 0 then 20 else 0
def tQ (ng : Bool) (L : List UInt8) : Rat :=
  if ldig L = L.length then mk ng (dval L) 1
  else if L[ldig L]? = some 46 then mk ng (dval (L.take (ldig L) ++ L.drop (ldig L + 1))) (10 ^ (L.drop (ldig L + 1)).length)
  else mk ng (dval (L.take (ldig L))) (dval (L.drop (ldig L + 1)))
def fpC (b : List UInt8) : Int := if 4000 < b.length then 4 else tC (fpS b)
def fpQ (b : List UInt8) : Rat := tQ (fpN b) (fpS b)
def RetFP (w : World) (b : List UInt8) (e : Ending) (w' : World) : Prop :=
  (fpC b = 0 ∧ RetQE w.heap.size w (fpQ b) 0 e w') ∨ (fpC b ≠ 0 ∧ ErrQ w (fpC b) e w')
/-- the same for a text without its sign -/
def RetTP (w : World) (ng : Bool) (L : List UInt8) (e : Ending) (w' : World) : Prop :=
  (tC L = 0 ∧ RetQE w.heap.size w (tQ ng L) 0 e w') ∨ (tC L ≠ 0 ∧ ErrQ w (tC L) e w')
theorem fp_of {w : World} {b : List UInt8} {e : Ending} {w' : World} (hb : ¬ 4000 < b.length) (h : RetTP w (fpN b) (fpS b) e w') : RetFP w b e w' := by
  unfold RetFP fpC fpQ
  rw [if_neg hb]; exact h
end Go.Proofs.Ythjgfppmempbkaa.Nt

/-
  Contract of rational.Parse.
-/
namespace Go.Proofs.Ythjgfppmempbkaa.Nt
open Go.ChangeShapes Go.WideShapes Go.ChangeAt Go.RowKit B
set_option linter.unusedVariables false

theorem tail_err {w w' : World} {ng : Bool} {L : List UInt8} {code : Int} (hc : tC L = code) (h0 : code ≠ 0) (hb : Below w.heap.size w w') :
    RetTP w ng L (.returned (.tuple #[.agg #[.bool false, .slice none 0 0, .slice none 0 0], .int .i64 code])) w' := by
  refine .inr ⟨by rw [hc]; exact h0, ?_, hb⟩
  rw [hc]
theorem head_byte {s : ByteArray} (h : 0 < s.size) : s.data.toList.head? = some (s[0]'h) := by
  rcases hh : s.data.toList with _ | ⟨x, l⟩
  · have : s.data.toList.length = s.size := by simp
    rw [hh] at this; simp at this; omega
  · have e : s.data.toList[0]'(by rw [hh]; simp) = x := by simp [hh]
    have : s[0]'h = x := by rw [← e]; show s.data[0] = _; simp
    rw [this]; rfl

theorem p10_ten (n : Nat) : (10 : Int) ^ n = p10 n := by
  induction n with
  | zero => rfl
  | succ n ih => rw [Int.pow_succ, ih, p10, Int.mul_comm]
theorem ten_pow {n : Nat} (h : n ≤ 4000) : powE 10 (n : Int) = 0 ∧ powX 10 (n : Int) = 10 ^ n ∧ (10 : Int) ^ n < Bp 500 + 1 := by
  have h1 := p10_pow n
  have h2 := p10_pos n
  have h3 := two_mono (show 4 * n ≤ 32 * 500 by omega)
  rw [← Bp_pow] at h3
  have hb : blen ((10 : Int) ^ n) ≤ 65536 := by
    rw [p10_ten]
    have h5 := two_mono (show 4 * n + 1 ≤ 65536 by omega)
    rw [Int.pow_succ] at h5
    exact blen_lt (by omega) 65536 (by have := two_pos (4 * n); omega)
  obtain ⟨e1, e2⟩ := pow_done hb
  exact ⟨e1, e2, by rw [p10_ten]; omega⟩
theorem bp_succ {x : Int} {c : Nat} (h : x < Bp c + 1) : x < Bp (c + 1) := by
  rw [Bp]; have := Bp_pos c; omega
end Go.Proofs.Ythjgfppmempbkaa.Nt
