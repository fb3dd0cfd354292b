/-
  QFmt, QParse, QParse2, in one text: see the remarks at the head of each part.
-/
import Derived.Test.YtfidddcjieoblaaMQ
import Derived.Test.YtfidddcjieoblaaMQMul
import Derived.Test.YtfidddcjieoblaaMRefH
/-
  Contract of rational.Format.
-/
namespace Go.Proofs.Ytfidddcjieoblaa.Nt
open Go.ChangeShapes Go.WideShapes Go.ChangeAt Go.RowKit B
set_option linter.unusedVariables false

theorem dec_size {s : ByteArray} {n : Int} {c : Nat} (h : IsDec s n) (hn : n < Bp c) : s.size ≤ 32 * c + 1 := by
  rcases h with ⟨_, rfl⟩ | ⟨h0, l, h1, h2, rfl⟩
  · have : (⟨#[48]⟩ : ByteArray).size = 1 := rfl
    omega
  · have hs : (decS l).size = l.length := by simp [decS, decB, ByteArray.size]
    rcases hl : l.length with _ | k
    · omega
    · have hp : p10 k ≤ n := by
        obtain ⟨m, x, rfl⟩ : ∃ m x, l = m ++ [x] := ⟨l.dropLast, l.getLast (by intro e; rw [e] at hl; simp at hl), (List.dropLast_concat_getLast _).symm⟩
        have hm : m.length = k := by simpa using hl
        rw [V10_snoc, hm] at h2
        have hx : x ≠ 0 := by intro e; subst e; exact h1.2 (by simp)
        have hx2 := h1.1 x (by simp)
        have hm0 : 0 ≤ V10 m := V10_nonneg (fun d hd => h1.1 d (by simp [hd]))
        have := Int.mul_le_mul_of_nonneg_left (show 1 ≤ x by omega) (show 0 ≤ p10 k by have := p10_pos k; omega)
        omega
      have := p10_len hp hn
      omega
/-- the text of a rational number -/
def IsFT (s : ByteArray) (q : Rat) : Prop :=
  ∃ t1 t2, IsDec t1 (q.num.natAbs : Int) ∧ IsDec t2 (q.den : Int) ∧
    s = if q.den = 1 then (if q.num < 0 then ⟨#[45]⟩ ++ t1 else t1) else (if q.num < 0 then ⟨#[45]⟩ ++ t1 else t1) ++ (⟨#[47]⟩ ++ t2)
theorem IsFT.unique {s t : ByteArray} {q : Rat} (h : IsFT s q) (k : IsFT t q) : s = t := by
  obtain ⟨t1, t2, h1, h2, rfl⟩ := h
  obtain ⟨u1, u2, k1, k2, rfl⟩ := k
  rw [IsDec.unique h1 k1, IsDec.unique h2 k2]
def RetFT (base : Nat) (w : World) (q : Rat) (e : Ending) (w' : World) : Prop := ∃ s, e = .returned (.string s) ∧ IsFT s q ∧ Below base w w'
theorem IsDec.one : IsDec ⟨#[49]⟩ 1 := .inr ⟨by decide, [1], ⟨by unfold D10; decide, by decide⟩, by decide, rfl⟩

end Go.Proofs.Ytfidddcjieoblaa.Nt

/-
  Contracts of rational.leadingDigits, digits and Parse.
-/
namespace Go.Proofs.Ytfidddcjieoblaa.Nt
open Go.ChangeShapes Go.WideShapes Go.ChangeAt Go.RowKit B
set_option linter.unusedVariables false

/-- how many decimal digits stand at the beginning -/
def ldig (b : List UInt8) : Nat := (b.takeWhile isD).length
theorem ldig_stop {b : List UInt8} {k : Nat} (hk : k ≤ b.length) (ha : (b.take k).all isD = true) (hs : k = b.length ∨ ∃ x, b[k]? = some x ∧ isD x = false) : ldig b = k := by
  unfold ldig
  induction b generalizing k with
  | nil => simp at hk; simp [hk]
  | cons c b ih =>
    rcases k with _ | k
    · rcases hs with h | ⟨x, h1, h2⟩
      · simp at h
      · simp at h1; subst h1; simp [h2]
    · simp at ha hk
      rw [List.takeWhile_cons, if_pos ha.1]
      simp only [List.length_cons]
      congr 1
      refine ih hk (by simpa using ha.2) ?_
      rcases hs with h | ⟨x, h1, h2⟩
      · left; simpa using h
      · right; exact ⟨x, by simpa using h1, h2⟩
theorem ldig_le (b : List UInt8) : ldig b ≤ b.length := by
  unfold ldig
  induction b with
  | nil => simp
  | cons c b ih => rw [List.takeWhile_cons]; split <;> simp <;> omega
theorem ldig_all (b : List UInt8) : (b.take (ldig b)).all isD = true := by
  unfold ldig
  induction b with
  | nil => simp
  | cons c b ih =>
    rw [List.takeWhile_cons]
    split
    · rename_i h
      simp only [List.length_cons, List.take_succ_cons, List.all_cons, h, Bool.true_and]; exact ih
    · simp
theorem dval_zero (b : List UInt8) : dval (48 :: b) = dval b := by
  unfold dval; rfl
theorem extract_list (t : ByteArray) (k : Nat) : (t.extract k t.size).data.toList = t.data.toList.drop k := by
  simp
  exact List.take_of_length_le (by simp)
/-- the parts of a text: sign, what follows it, the error number and the value -/
def fpN (b : List UInt8) : Bool := decide (b.head? = some 45)
def fpS (b : List UInt8) : List UInt8 := if fpN b then b.drop 1 else b
/-- the error number and the value of a text without its sign -/
def tC (L : List UInt8) : Int :=
  if ldig L = 0 then 2
  else if ldig L = L.length then 0
  else if (L[ldig L]? ≠ some 47 ∧ L[ldig L]? ≠ some 46) ∨ L.drop (ldig L + 1) = [] ∨ ldig (L.drop (ldig L + 1)) ≠ (L.drop (ldig L + 1)).length then 2
  else if L[ldig L]? = some 46 then 0
  else if dval (L.drop (ldig L + 1)) = 0 then 20 else 0
def tQ (ng : Bool) (L : List UInt8) : Rat :=
  if ldig L = L.length then mk ng (dval L) 1
  else if L[ldig L]? = some 46 then mk ng (dval (L.take (ldig L) ++ L.drop (ldig L + 1))) (10 ^ (L.drop (ldig L + 1)).length)
  else mk ng (dval (L.take (ldig L))) (dval (L.drop (ldig L + 1)))
def fpC (b : List UInt8) : Int := if 4000 < b.length then 4 else tC (fpS b)
def fpQ (b : List UInt8) : Rat := tQ (fpN b) (fpS b)
def RetFP (w : World) (b : List UInt8) (e : Ending) (w' : World) : Prop :=
  (fpC b = 0 ∧ RetQE w.heap.size w (fpQ b) 0 e w') ∨ (fpC b ≠ 0 ∧ ErrQ w (fpC b) e w')
/-- the same for a text without its sign -/
def RetTP (w : World) (ng : Bool) (L : List UInt8) (e : Ending) (w' : World) : Prop :=
  (tC L = 0 ∧ RetQE w.heap.size w (tQ ng L) 0 e w') ∨ (tC L ≠ 0 ∧ ErrQ w (tC L) e w')
theorem fp_of {w : World} {b : List UInt8} {e : Ending} {w' : World} (hb : ¬ 4000 < b.length) (h : RetTP w (fpN b) (fpS b) e w') : RetFP w b e w' := by
  unfold RetFP fpC fpQ
  rw [if_neg hb]; exact h
end Go.Proofs.Ytfidddcjieoblaa.Nt

/-
  Contract of rational.Parse.
-/
namespace Go.Proofs.Ytfidddcjieoblaa.Nt
open Go.ChangeShapes Go.WideShapes Go.ChangeAt Go.RowKit B
set_option linter.unusedVariables false

theorem tail_err {w w' : World} {ng : Bool} {L : List UInt8} {code : Int} (hc : tC L = code) (h0 : code ≠ 0) (hb : Below w.heap.size w w') :
    RetTP w ng L (.returned (.tuple #[.agg #[.bool false, .slice none 0 0, .slice none 0 0], .int .i64 code])) w' := by
  refine .inr ⟨by rw [hc]; exact h0, ?_, hb⟩
  rw [hc]
theorem head_byte {s : ByteArray} (h : 0 < s.size) : s.data.toList.head? = some (s[0]'h) := by
  rcases hh : s.data.toList with _ | ⟨x, l⟩
  · have : s.data.toList.length = s.size := by simp
    rw [hh] at this; simp at this; omega
  · have e : s.data.toList[0]'(by rw [hh]; simp) = x := by simp [hh]
    have : s[0]'h = x := by rw [← e]; show s.data[0] = _; simp
    rw [this]; rfl

theorem p10_ten (n : Nat) : (10 : Int) ^ n = p10 n := by
  induction n with
  | zero => rfl
  | succ n ih => rw [Int.pow_succ, ih, p10, Int.mul_comm]
theorem ten_pow {n : Nat} (h : n ≤ 4000) : powE 10 (n : Int) = 0 ∧ powX 10 (n : Int) = 10 ^ n ∧ (10 : Int) ^ n < Bp 500 + 1 := by
  have h1 := p10_pow n
  have h2 := p10_pos n
  have h3 := two_mono (show 4 * n ≤ 32 * 500 by omega)
  rw [← Bp_pow] at h3
  have hb : blen ((10 : Int) ^ n) ≤ 65536 := by
    rw [p10_ten]
    have h5 := two_mono (show 4 * n + 1 ≤ 65536 by omega)
    rw [Int.pow_succ] at h5
    exact blen_lt (by omega) 65536 (by have := two_pos (4 * n); omega)
  obtain ⟨e1, e2⟩ := pow_done hb
  exact ⟨e1, e2, by rw [p10_ten]; omega⟩
theorem bp_succ {x : Int} {c : Nat} (h : x < Bp c + 1) : x < Bp (c + 1) := by
  rw [Bp]; have := Bp_pos c; omega
end Go.Proofs.Ytfidddcjieoblaa.Nt
