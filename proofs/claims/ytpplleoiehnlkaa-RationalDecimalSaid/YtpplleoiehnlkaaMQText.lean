/-
  QFmt, QParse, QParse2, in one text: see the remarks at the head of each part.
-/
import Derived.Test.YtpplleoiehnlkaaMQ
import Derived.Test.YtpplleoiehnlkaaMQMul
import Derived.Test.YtpplleoiehnlkaaMRefH
/-
  Contract of rational.Format.
-/
namespace Go.Proofs.Ytpplleoiehnlkaa.Nt
open Go.ChangeShapes Go.WideShapes Go.ChangeAt Go.RowKit B
set_option linter.unusedVariables false

theorem dec_size {s : ByteArray} {n : Int} {c : Nat} (h : IsDec s n) (hn : n < Bp c) : s.size ≤ 32 * c + 1 := by
  rcases h with ⟨_, rfl⟩ | ⟨h0, l, h1, h2, rfl⟩
  · have : (⟨#[48]⟩ : ByteArray).size = 1 := rfl
    omega
  · have hs : (decS l).size = l.length := by simp [decS, decB, ByteArray.size]
    rcases hl : l.length with _ | k
    · omega
    · have hp : p10 k ≤ n := by
        obtain ⟨m, x, rfl⟩ : ∃ m x, l = m ++ [x] := ⟨l.dropLast, l.getLast (by intro e; rw [e] at hl; simp at hl), (List.dropLast_concat_getLast _).symm⟩
        have hm : m.length = k := by simpa using hl
        rw [V10_snoc, hm] at h2
        have hx : x ≠ 0 := by intro e; subst e; exact h1.2 (by simp)
        have hx2 := h1.1 x (by simp)
        have hm0 : 0 ≤ V10 m := V10_nonneg (fun d hd => h1.1 d (by simp [hd]))
        have := Int.mul_le_mul_of_nonneg_left (show 1 ≤ x by omega) (show 0 ≤ p10 k by have := p10_pos k; omega)
        omega
      have := p10_len hp hn
      omega
/-- the text of a rational number -/
def IsFT (s : ByteArray) (q : Rat) : Prop :=
  ∃ t1 t2, IsDec t1 (q.num.natAbs : Int) ∧ IsDec t2 (q.den : Int) ∧
    s = if q.den = 1 then (if q.num < 0 then ⟨#[45]⟩ ++ t1 else t1) else (if q.num < 0 then ⟨#[45]⟩ ++ t1 else t1) ++ (⟨#[47]⟩ ++ t2)
theorem IsFT.unique {s t : ByteArray} {q : Rat} (h : IsFT s q) (k : IsFT t q) : s = t := by
  obtain ⟨t1, t2, h1, h2, rfl⟩ := h
  obtain ⟨u1, u2, k1, k2, rfl⟩ := k
  rw [IsDec.unique h1 k1, IsDec.unique h2 k2]
def RetFT (base : Nat) (w : World) (q : Rat) (e : Ending) (w' : World) : Prop := ∃ s, e = .returned (.string s) ∧ IsFT s q ∧ Below base w w'
theorem IsDec.one : IsDec ⟨#[49]⟩ 1 := .inr ⟨by decide, [1], ⟨by unfold D10; decide, by decide⟩, by decide, rfl⟩

set_option maxHeartbeats 2000000 in
theorem qFormat (va : Value) (c : Nat) (q : Rat) (w : World) (ha : Raw w va c q) (hc : c ≤ 1000000) (hq : Qb c q) :
    Calls Try.prog 18 #[va] w (RetFT w.heap.size w q) := by
  have HQB := Lib.hid hq
  have HRAW := Lib.hid ha
  obtain ⟨neg, vn, vd, n, d, rfl, hn, hd, _⟩ := ha
  obtain ⟨a1, n1, p1, rfl⟩ := hn.form
  obtain ⟨a2, n2, p2, rfl⟩ := hd.form
  have hW := alloc_below w (.cells #[.bool neg, .slice a1 n1 p1, .slice a2 n2 p2] 25 (0, 0))
  have HW := Lib.hid hW
  have HRW := Lib.hid (HRAW.out.keep hW)
  clear hn hd hq hW HRAW
  go_enter Try.func18, Try.ntmps18
  go_wp2_with fail
  refine (qNormalize _ c q _ HRW.out (by omega)).mono ?_
  rintro e w2 ⟨v, rfl, ⟨vn, vd, rfl, h1, h2⟩, hb2⟩
  obtain ⟨b1, m1, r1, rfl⟩ := h1.form
  obtain ⟨b2, m2, r2, rfl⟩ := h2.form
  have hbw2 : Below w.heap.size w w2 := HW.out.trans (hb2.mono (by simp))
  have hA2 := alloc_below w2 (.cells #[.bool (decide (q.num < 0)), .slice b1 m1 r1, .slice b2 m2 r2] 25 (0, 0))
  have H1 := Lib.hid (h1.keep hA2)
  have H2 := Lib.hid (h2.keep hA2)
  have HX := Lib.hid (Box3.new w2 (.bool (decide (q.num < 0))) (.slice b1 m1 r1) (.slice b2 m2 r2) 25)
  have hbw3 := hbw2.trans (hA2.mono hbw2.size)
  have hW3 : Below w2.heap.size w2 (w2.alloc (.cells #[.bool (decide (q.num < 0)), .slice b1 m1 r1, .slice b2 m2 r2] 25 (0, 0))) := hA2
  clear h1 h2 hA2 hb2
  generalize hNe : decide (q.num < 0) = ng at *
  generalize hWe : w2.alloc (.cells #[.bool ng, .slice b1 m1 r1, .slice b2 m2 r2] 25 (0, 0)) = w3 at *
  have HWE := Lib.hid hWe
  have HNE := Lib.hid hNe
  clear hWe hNe
  go_wp2_with fail
  rw [HWE.out]
  refine (Nt.format _ c _ w3 (H1.out.num c HQB.out.1) (by omega)).mono ?_
  rintro e w4 ⟨t1, rfl, ht1, hb4⟩
  have HT1 := Lib.hid ht1
  have hs1 := dec_size ht1 HQB.out.1
  have H24 := Lib.hid (H2.out.keep hb4)
  have hbw4 := hbw3.trans (hb4.mono hbw3.size)
  have HX4 := Lib.hid (HX.out.keep hb4)
  obtain ⟨⟨x0, x1, x2⟩, _, _, _⟩ := HX4.out
  have hsz45 : (⟨#[45]⟩ : ByteArray).size = 1 := rfl
  have hsz47 : (⟨#[47]⟩ : ByteArray).size = 1 := rfl
  clear ht1
  by_cases h1 : (q.den : Int) = 1
  · have HD1 := Lib.hid (show q.den = 1 by omega)
    have HDD := Lib.hid (show decide ((q.den : Int) = 1) = true by simpa using h1)
    clear h1
    rcases ng
    all_goals
      go_wp2_with fail
      refine (isOne _ _ w4 H24.out).mono ?_
      rintro e w' ⟨rfl, rfl⟩
      rw [HDD.out]
      go_wp2_with fail
      go_ret
      refine ⟨_, rfl, ⟨t1, ⟨#[49]⟩, HT1.out, by rw [HD1.out]; exact IsDec.one, ?_⟩, hbw4⟩
      rw [if_pos HD1.out]
      first | rw [if_pos (of_decide_eq_true HNE.out)] | rw [if_neg (of_decide_eq_false HNE.out)]
  · have HD1 := Lib.hid (show ¬ q.den = 1 by omega)
    have HDD := Lib.hid (show decide ((q.den : Int) = 1) = false by simpa using h1)
    clear h1
    rcases ng
    all_goals
      go_wp2_with fail
      refine (isOne _ _ w4 H24.out).mono ?_
      rintro e w' ⟨rfl, rfl⟩
      rw [HDD.out]
      go_wp2_with fail
      refine (Nt.format _ c _ w4 (H24.out.num c HQB.out.2) (by omega)).mono ?_
      rintro e w5 ⟨t2, rfl, ht2, hb5⟩
      have HT2 := Lib.hid ht2
      have hs2 := dec_size ht2 HQB.out.2
      clear ht2
      have hsa : (⟨#[47]⟩ ++ t2 : ByteArray).size = 1 + t2.size := by rw [ByteArray.size_append]; rfl
      have hsb : (⟨#[45]⟩ ++ t1 : ByteArray).size = 1 + t1.size := by rw [ByteArray.size_append]; rfl
      go_wp2_with fail
      go_ret
      refine ⟨_, rfl, ⟨t1, t2, HT1.out, HT2.out, ?_⟩, hbw4.trans (hb5.mono hbw4.size)⟩
      rw [if_neg HD1.out]
      first | rw [if_pos (of_decide_eq_true HNE.out)] | rw [if_neg (of_decide_eq_false HNE.out)]
end Go.Proofs.Ytpplleoiehnlkaa.Nt

/-
  Contracts of rational.leadingDigits, digits and Parse.
-/
namespace Go.Proofs.Ytpplleoiehnlkaa.Nt
open Go.ChangeShapes Go.WideShapes Go.ChangeAt Go.RowKit B
set_option linter.unusedVariables false

/-- how many decimal digits stand at the beginning -/
def ldig (b : List UInt8) : Nat := (b.takeWhile isD).length
theorem ldig_stop {b : List UInt8} {k : Nat} (hk : k ≤ b.length) (ha : (b.take k).all isD = true) (hs : k = b.length ∨ ∃ x, b[k]? = some x ∧ isD x = false) : ldig b = k := by
  unfold ldig
  induction b generalizing k with
  | nil => simp at hk; simp [hk]
  | cons c b ih =>
    rcases k with _ | k
    · rcases hs with h | ⟨x, h1, h2⟩
      · simp at h
      · simp at h1; subst h1; simp [h2]
    · simp at ha hk
      rw [List.takeWhile_cons, if_pos ha.1]
      simp only [List.length_cons]
      congr 1
      refine ih hk (by simpa using ha.2) ?_
      rcases hs with h | ⟨x, h1, h2⟩
      · left; simpa using h
      · right; exact ⟨x, by simpa using h1, h2⟩
theorem ldig_le (b : List UInt8) : ldig b ≤ b.length := by
  unfold ldig
  induction b with
  | nil => simp
  | cons c b ih => rw [List.takeWhile_cons]; split <;> simp <;> omega
theorem ldig_all (b : List UInt8) : (b.take (ldig b)).all isD = true := by
  unfold ldig
  induction b with
  | nil => simp
  | cons c b ih =>
    rw [List.takeWhile_cons]
    split
    · rename_i h
      simp only [List.length_cons, List.take_succ_cons, List.all_cons, h, Bool.true_and]; exact ih
    · simp
set_option maxHeartbeats 1000000 in
theorem qLeading (s : ByteArray) (w : World) (hs : s.size ≤ maxLen) :
    Calls Try.prog 52 #[.string s] w fun e w' => e = .returned (.int .i64 (ldig s.data.toList : Int)) ∧ w = w' := by
  unfold maxLen at hs
  have HB := Lib.hid (show s.data.toList.length = s.size by simp)
  go_enter Try.func52, Try.ntmps52
  go_wp2_with fail
  go_loopg [3] s.size (fun gk i wr => ∃ k : Nat, k ≤ s.size ∧ s.size - k ≤ gk ∧ i = .int .i64 k ∧ Hid ((s.data.toList.take k).all isD = true) ∧ wr = w)
  case atStart => exact ⟨0, Nat.zero_le _, Nat.le_refl _, rfl, rfl, rfl⟩
  case round =>
    obtain ⟨k, hk, hgk, rfl, HA, rfl⟩ := hrel
    by_cases hlt : k < s.size
    · have HT := Lib.hid (bytes_take s k hlt)
      have hcb : (s[k]).toNat < 256 := (s[k]).toNat_lt
      have hlt1 : decide ((k : Int) < s.size) = true := by simp; omega
      by_cases hbad : ((s[k]).toNat : Int) < 48 ∨ 57 < ((s[k]).toNat : Int)
      · have HR := Lib.hid (show ldig s.data.toList = k from ldig_stop (by rw [HB.out]; omega) HA.out (.inr ⟨s[k], by rw [List.getElem?_eq_getElem (by rw [HB.out]; exact hlt)]; rfl, by simp [isD]; omega⟩))
        rcases hbad with hlo | hhi
        · have hd1 : decide (48 ≤ ((s[k]).toNat : Int)) = false := by simp; omega
          go_wp2
          go_ret
          exact ⟨by rw [HR.out]; rfl, rfl⟩
        · have hd1 : decide (48 ≤ ((s[k]).toNat : Int)) = true := by simp; omega
          have hd2 : decide (((s[k]).toNat : Int) ≤ 57) = false := by simp; omega
          go_wp2
          go_ret
          exact ⟨by rw [HR.out]; rfl, rfl⟩
      · have hd1 : decide (48 ≤ ((s[k]).toNat : Int)) = true := by simp; omega
        have hd2 : decide (((s[k]).toNat : Int) ≤ 57) = true := by simp; omega
        have HD := Lib.hid (show isD s[k] = true by simp [isD]; omega)
        clear hbad
        go_wp2
        go_roundg (s.size - (k + 1))
        case measure => omega
        case rel => exact ⟨k + 1, by omega, Nat.le_refl _, by go_num, by show _ = _; rw [HT.out, List.all_append, HA.out]; simp [HD.out], rfl⟩
    · obtain rfl : k = s.size := by omega
      have HR := Lib.hid (show ldig s.data.toList = s.size from ldig_stop (by rw [HB.out]; omega) HA.out (.inl HB.out.symm))
      go_wp2
      go_ret
      exact ⟨by rw [HR.out]; rfl, rfl⟩

theorem dval_zero (b : List UInt8) : dval (48 :: b) = dval b := by
  unfold dval; rfl
theorem extract_list (t : ByteArray) (k : Nat) : (t.extract k t.size).data.toList = t.data.toList.drop k := by
  simp
  exact List.take_of_length_le (by simp)
set_option maxHeartbeats 1000000 in
theorem qDigits (s : ByteArray) (w : World) (hs : s.size ≤ 4000) (h1 : 1 ≤ s.size) (hd : s.data.toList.all isD = true) :
    Calls Try.prog 53 #[.string s] w (Ret1 w.heap.size w (dval s.data.toList)) := by
  have HD := Lib.hid hd
  clear hd
  go_enter Try.func53, Try.ntmps53
  go_wp2_with fail
  go_loopg [0] s.size (fun gk v wr => ∃ t : ByteArray, v = .string t ∧ t.size ≤ gk ∧ 1 ≤ t.size ∧ t.size ≤ 4000 ∧ Hid (t.data.toList.all isD = true ∧ dval t.data.toList = dval s.data.toList) ∧ wr = w)
  case atStart => exact ⟨s, rfl, Nat.le_refl _, h1, hs, ⟨HD.out, rfl⟩, rfl⟩
  case round =>
    obtain ⟨t, rfl, hgk, ht1, ht2, HT, rfl⟩ := hrel
    have HB := Lib.hid (show t.data.toList.length = t.size by simp)
    have hcb : (t[0]'ht1).toNat < 256 := (t[0]'ht1).toNat_lt
    have HHD := Lib.hid (show t.data.toList = (t[0]'ht1) :: t.data.toList.drop 1 by
      rcases hh : t.data.toList with _ | ⟨x, l⟩
      · have := HB.out; rw [hh] at this; simp at this; omega
      · have : t[0]'ht1 = x := by
          show t.data[0] = x
          have e : t.data.toList[0]'(by rw [hh]; simp) = x := by simp [hh]
          rw [← e]; simp
        rw [this]; rfl)
    have HE := Lib.hid (extract_list t 1)
    by_cases hlen : 1 < t.size
    · have hl1 : decide (1 < (t.size : Int)) = true := by simp; omega
      by_cases hz : (t[0]'ht1).toNat = 48
      · have hc : (((t[0]'ht1).toNat : Int) == 48) = true := by rw [hz]; rfl
        have HZ := Lib.hid (show t[0]'ht1 = 48 from UInt8.toNat_inj.1 (by rw [hz]; rfl))
        have HSZ := Lib.hid (show (t.extract 1 t.size).size = t.size - 1 by simp)
        clear hz
        go_wp2_with fail
        go_roundg (t.size - 1)
        case measure => omega
        case rel =>
          refine ⟨_, rfl, by rw [HSZ.out]; exact Nat.le_refl _, by rw [HSZ.out]; omega, by rw [HSZ.out]; omega, ⟨?_, ?_⟩, rfl⟩
          · rw [HE.out]
            have h := HT.out.1
            rw [HHD.out, List.all_cons, Bool.and_eq_true] at h
            exact h.2
          · rw [HE.out, ← HT.out.2]
            conv => rhs; rw [HHD.out, HZ.out, dval_zero]
      · have hc : (((t[0]'ht1).toNat : Int) == 48) = false := by rw [beq_eq_false_iff_ne]; omega
        have HOK := Lib.hid (show pval t.data.toList = dval s.data.toList by
          have h0 : ¬ 4000 < t.data.toList.length := by rw [HB.out]; omega
          have h9 : okDec t.data.toList = true := by
            have e0 : t.data.toList[0]?.getD 0 = t[0]'ht1 := by rw [HHD.out]; rfl
            have e1 : t.data.toList.isEmpty = false := by rw [HHD.out]; rfl
            unfold okDec
            rw [e0, e1, HT.out.1]
            simp [hz]
          rw [pval, if_neg h0, if_pos h9, HT.out.2])
        clear hz
        go_wp2_with fail
        refine (parse t wr (by unfold maxLen; omega)).mono ?_
        rintro e w1 ⟨v, rfl, h, hb⟩
        rw [HOK.out] at h
        go_wp2_with fail
        go_ret
        exact ⟨v, rfl, h, hb⟩
    · have hl1 : decide (1 < (t.size : Int)) = false := by simp; omega
      have HOK := Lib.hid (show pval t.data.toList = dval s.data.toList by
        have h0 : ¬ 4000 < t.data.toList.length := by rw [HB.out]; omega
        have h9 : okDec t.data.toList = true := by
          have e1 : t.data.toList.isEmpty = false := by rw [HHD.out]; rfl
          have e2 : decide (1 < t.data.toList.length) = false := by rw [HB.out]; simpa using hlen
          unfold okDec
          rw [e1, HT.out.1, e2]; rfl
        rw [pval, if_neg h0, if_pos h9, HT.out.2])
      go_wp2_with fail
      refine (parse t wr (by unfold maxLen; omega)).mono ?_
      rintro e w1 ⟨v, rfl, h, hb⟩
      rw [HOK.out] at h
      go_wp2_with fail
      go_ret
      exact ⟨v, rfl, h, hb⟩

/-- the parts of a text: sign, what follows it, the error number and the value -/
def fpN (b : List UInt8) : Bool := decide (b.head? = some 45)
def fpS (b : List UInt8) : List UInt8 := if fpN b then b.drop 1 else b
/-- the error number and the value of a text without its sign -/
def tC (L : List UInt8) : Int :=
  if ldig L = 0 then 2
  else if ldig L = L.length then 0
  else if (L[ldig L]? ≠ some 47 ∧ L[ldig L]? ≠ some 46) ∨ L.drop (ldig L + 1) = [] ∨ ldig (L.drop (ldig L + 1)) ≠ (L.drop (ldig L + 1)).length then 2
  else if L[ldig L]? = some 46 then 0
  else if dval (L.drop (ldig L + 1)) = 0 then 20 else 0
def tQ (ng : Bool) (L : List UInt8) : Rat :=
  if ldig L = L.length then mk ng (dval L) 1
  else if L[ldig L]? = some 46 then mk ng (dval (L.take (ldig L) ++ L.drop (ldig L + 1))) (10 ^ (L.drop (ldig L + 1)).length)
  else mk ng (dval (L.take (ldig L))) (dval (L.drop (ldig L + 1)))
def fpC (b : List UInt8) : Int := if 4000 < b.length then 4 else tC (fpS b)
def fpQ (b : List UInt8) : Rat := tQ (fpN b) (fpS b)
def RetFP (w : World) (b : List UInt8) (e : Ending) (w' : World) : Prop :=
  (fpC b = 0 ∧ RetQE w.heap.size w (fpQ b) 0 e w') ∨ (fpC b ≠ 0 ∧ ErrQ w (fpC b) e w')
/-- the same for a text without its sign -/
def RetTP (w : World) (ng : Bool) (L : List UInt8) (e : Ending) (w' : World) : Prop :=
  (tC L = 0 ∧ RetQE w.heap.size w (tQ ng L) 0 e w') ∨ (tC L ≠ 0 ∧ ErrQ w (tC L) e w')
theorem fp_of {w : World} {b : List UInt8} {e : Ending} {w' : World} (hb : ¬ 4000 < b.length) (h : RetTP w (fpN b) (fpS b) e w') : RetFP w b e w' := by
  unfold RetFP fpC fpQ
  rw [if_neg hb]; exact h
end Go.Proofs.Ytpplleoiehnlkaa.Nt

/-
  Contract of rational.Parse.
-/
namespace Go.Proofs.Ytpplleoiehnlkaa.Nt
open Go.ChangeShapes Go.WideShapes Go.ChangeAt Go.RowKit B
set_option linter.unusedVariables false

theorem tail_err {w w' : World} {ng : Bool} {L : List UInt8} {code : Int} (hc : tC L = code) (h0 : code ≠ 0) (hb : Below w.heap.size w w') :
    RetTP w ng L (.returned (.tuple #[.agg #[.bool false, .slice none 0 0, .slice none 0 0], .int .i64 code])) w' := by
  refine .inr ⟨by rw [hc]; exact h0, ?_, hb⟩
  rw [hc]
theorem head_byte {s : ByteArray} (h : 0 < s.size) : s.data.toList.head? = some (s[0]'h) := by
  rcases hh : s.data.toList with _ | ⟨x, l⟩
  · have : s.data.toList.length = s.size := by simp
    rw [hh] at this; simp at this; omega
  · have e : s.data.toList[0]'(by rw [hh]; simp) = x := by simp [hh]
    have : s[0]'h = x := by rw [← e]; show s.data[0] = _; simp
    rw [this]; rfl

theorem p10_ten (n : Nat) : (10 : Int) ^ n = p10 n := by
  induction n with
  | zero => rfl
  | succ n ih => rw [Int.pow_succ, ih, p10, Int.mul_comm]
theorem ten_pow {n : Nat} (h : n ≤ 4000) : powE 10 (n : Int) = 0 ∧ powX 10 (n : Int) = 10 ^ n ∧ (10 : Int) ^ n < Bp 500 + 1 := by
  have h1 := p10_pow n
  have h2 := p10_pos n
  have h3 := two_mono (show 4 * n ≤ 32 * 500 by omega)
  rw [← Bp_pow] at h3
  have hb : blen ((10 : Int) ^ n) ≤ 65536 := by
    rw [p10_ten]
    have h5 := two_mono (show 4 * n + 1 ≤ 65536 by omega)
    rw [Int.pow_succ] at h5
    exact blen_lt (by omega) 65536 (by have := two_pos (4 * n); omega)
  obtain ⟨e1, e2⟩ := pow_done hb
  exact ⟨e1, e2, by rw [p10_ten]; omega⟩
theorem bp_succ {x : Int} {c : Nat} (h : x < Bp c + 1) : x < Bp (c + 1) := by
  rw [Bp]; have := Bp_pos c; omega
set_option maxHeartbeats 8000000 in
set_option maxRecDepth 100000 in
theorem qParse (s : ByteArray) (w : World) (hs : s.size ≤ maxLen) :
    Calls Try.prog 16 #[.string s] w (RetFP w s.data.toList) := by
  unfold maxLen at hs
  have hbl : s.data.toList.length = s.size := by simp
  obtain ⟨hR, hW, hS⟩ := pro1 w (.bool false) (.slice none 0 0) (.slice none 0 0) 25
  by_cases h4 : 4000 < s.size
  · have HR := Lib.hid (show fpC s.data.toList = 4 by rw [fpC, hbl, if_pos h4])
    have HW := Lib.hid hW
    clear hbl hR hW hS
    go_enter Try.func16, Try.ntmps16
    go_wp2_with fail
    refine bodyPost_ret (v := .tuple #[.agg #[.bool false, .slice none 0 0, .slice none 0 0], .int .i64 4]) (by simp [results, Try.results16, go_sem]) rfl ?_
    exact .inr ⟨by rw [HR.out]; decide, by rw [HR.out], HW.out⟩
  have HP := Lib.hid (fun e w' => fp_of (w := w) (b := s.data.toList) (e := e) (w' := w') (by rw [hbl]; exact h4))
  have HBL := Lib.hid hbl
  have HR := Lib.hid hR
  have HW := Lib.hid hW
  have HWS := Lib.hid hS
  have h4' : s.size ≤ 4000 := by omega
  clear hbl hR hW hS h4 hs
  have hcases : (s.size = 0) ∨ (∃ h : 0 < s.size, (s[0]'h).toNat = 45) ∨ (∃ h : 0 < s.size, (s[0]'h).toNat ≠ 45) := by
    rcases Nat.eq_zero_or_pos s.size with h | h
    · exact .inl h
    · by_cases h5 : (s[0]'h).toNat = 45
      · exact .inr (.inl ⟨h, h5⟩)
      · exact .inr (.inr ⟨h, h5⟩)
  rcases hcases with h0 | ⟨h0, h5⟩ | ⟨h0, h5⟩
  · have hn : s.data.toList = [] := List.eq_nil_of_length_eq_zero (by rw [HBL.out]; exact h0)
    have HPP := Lib.hid (fun e w' => HP.out e w')
    rw [hn] at HPP
    have hd0 : decide (0 < (s.size : Int)) = false := decide_eq_false (by omega)
    have HL := Lib.hid (show ldig s.data.toList = 0 by rw [hn]; rfl)
    have HN := Lib.hid hn
    have hz : ¬ 0 < s.size := by omega
    clear hn h0 HP
    go_enter Try.func16, Try.ntmps16
    go_wp2_with fail
    refine (qLeading s _ (by unfold maxLen; omega)).mono ?_
    rintro e w' ⟨rfl, rfl⟩
    rw [HL.out]
    go_wp2_with fail
    refine bodyPost_ret (v := .tuple #[.agg #[.bool false, .slice none 0 0, .slice none 0 0], .int .i64 2]) (by simp [results, Try.results16, go_sem]) rfl ?_
    rw [HN.out]
    exact HPP.out _ _ (tail_err (code := 2) rfl (by decide) HW.out)
  · have hd0 : decide (0 < (s.size : Int)) = true := decide_eq_true (by omega)
    have hc : (((s[0]'h0).toNat : Int) == 45) = true := by rw [h5]; rfl
    have HF := Lib.hid (show fpN s.data.toList = true ∧ fpS s.data.toList = (s.extract 1 s.size).data.toList by
      have e1 : fpN s.data.toList = true := by
        unfold fpN
        rw [head_byte h0, decide_eq_true_iff, show s[0]'h0 = 45 from UInt8.toNat_inj.1 (by rw [h5]; rfl)]
      refine ⟨e1, ?_⟩
      rw [fpS, e1, if_pos rfl, extract_list])
    have hts : (s.extract 1 s.size).size ≤ 4000 := by simp; omega
    rw [HF.out.1, HF.out.2] at HP
    clear h5 HF
    go_enter Try.func16, Try.ntmps16
    go_wp2_with fail
    generalize s.extract 1 s.size = t at *
    clear hd0 hc
    refine (qLeading t _ (by unfold maxLen; omega)).mono ?_
    rintro e w' ⟨rfl, rfl⟩
    have HTL := Lib.hid (show t.data.toList.length = t.size by simp)
    have hle : ldig t.data.toList ≤ t.size := by rw [← HTL.out]; exact ldig_le _
    have HALL := Lib.hid (ldig_all t.data.toList)
    generalize hm : ldig t.data.toList = m at *
    have HM := Lib.hid hm
    clear hm
    by_cases hm0 : m = 0
    · have HC := Lib.hid (show tC t.data.toList = 2 by rw [tC, if_pos (by rw [HM.out]; exact hm0)])
      subst hm0
      go_wp2_with fail
      refine bodyPost_ret (v := .tuple #[.agg #[.bool false, .slice none 0 0, .slice none 0 0], .int .i64 2]) (by simp [results, Try.results16, go_sem]) rfl ?_
      exact HP.out _ _ (tail_err HC.out (by decide) HW.out)
    have hz : ((m : Int) == 0) = false := by rw [beq_eq_false_iff_ne]; omega
    by_cases hml : m = t.size
    · have HC := Lib.hid (show tC t.data.toList = 0 ∧ tQ true t.data.toList = mk true (dval t.data.toList) 1 by
        have e1 : ldig t.data.toList = t.data.toList.length := by rw [HM.out, HTL.out]; exact hml
        exact ⟨by rw [tC, if_neg (by rw [HM.out]; exact hm0), if_pos e1], by rw [tQ, if_pos e1]⟩)
      have HD := Lib.hid (show t.data.toList.all isD = true by have h := HALL.out; rwa [List.take_of_length_le (by rw [HTL.out]; omega)] at h)
      have HDL := Lib.hid (dval_lt HD.out (by rw [HTL.out]; exact hts))
      have hbe : ((m : Int) == (t.size : Int)) = true := by rw [hml]; simp
      have h1s : 1 ≤ t.size := by omega
      clear hm0 hml
      go_wp2_with fail
      refine (qDigits t _ hts h1s HD.out).mono ?_
      rintro e w2 ⟨v2, rfl, h2, hb2⟩
      have H2 := Lib.hid h2
      clear h2 hbe hz
      go_wp2_with fail
      refine (fromUint64 1 w2 (by decide) (by decide)).mono ?_
      rintro e w3 ⟨v3, rfl, h3, hb3⟩
      have H3 := Lib.hid h3
      clear h3
      go_wp2_with fail
      refine (qReduce true v2 v3 500 (dval t.data.toList) 1 w3 ((H2.out.keep hb3).num 500 HDL.out.2) (H3.out.num 500 (Int.lt_of_lt_of_le (bp_lit (by decide)) (Bp_mono (by omega)))) (by omega)).mono ?_
      rintro e w4 ⟨v4, rfl, h4, hb4⟩
      rw [← HC.out.2] at h4
      obtain ⟨qb, qa, qn, qc, ra, rn, rc, rfl⟩ := h4.form
      have HI := Lib.hid h4
      have HBW := Lib.hid ((hb2.trans (hb3.mono hb2.size)).trans (hb4.mono (Nat.le_trans hb2.size hb3.size)))
      have HBS := Lib.hid (show w.heap.size + 1 ≤ w3.heap.size by have e1 := hb2.size; have e2 := hb3.size; rw [HWS.out] at e1; omega)
      obtain ⟨⟨rc0, rc1, rc2⟩, rf0, rf1, rf2⟩ := HR.out.keep HBW.out
      clear h4
      go_wp2_with fail
      have hbw := HW.out.trans (HBW.out.mono (by have := HWS.out; omega))
      refine bodyPost_ret (v := .tuple #[.agg #[.bool qb, .slice qa qn qc, .slice ra rn rc], .int .i64 0]) (by simp [results, Try.results16, go_sem, rc0, rc1, rc2]) rfl ?_
      exact HP.out _ _ (.inl ⟨HC.out.1, fin_qe (base := w.heap.size + 1) (HI.out.mono HBS.out) (by omega) hbw (by omega)⟩)
    have hbe : ((m : Int) == (t.size : Int)) = false := by rw [beq_eq_false_iff_ne]; omega
    have hlt : m < t.size := by omega
    have hcb : (t[m]).toNat < 256 := (t[m]).toNat_lt
    have HCH := Lib.hid (show t.data.toList[m]? = some t[m] by rw [List.getElem?_eq_getElem (by rw [HTL.out]; exact hlt)]; rfl)
    have HU := Lib.hid (extract_list t (m + 1))
    have hus : (t.extract (m + 1) t.size).size ≤ 4000 := by simp; omega
    have HUS := Lib.hid (show (t.extract (m + 1) t.size).data.toList.length = (t.extract (m + 1) t.size).size by simp)
    have HTK := Lib.hid (show (t.extract 0 m).data.toList = t.data.toList.take m by simp)
    have HTS := Lib.hid (show (t.extract 0 m).size = m by simp; omega)
    have HC0 := Lib.hid (show tC t.data.toList = (if (t.data.toList[m]? ≠ some 47 ∧ t.data.toList[m]? ≠ some 46) ∨ t.data.toList.drop (m + 1) = [] ∨ ldig (t.data.toList.drop (m + 1)) ≠ (t.data.toList.drop (m + 1)).length then 2 else if t.data.toList[m]? = some 46 then 0 else if dval (t.data.toList.drop (m + 1)) = 0 then 20 else 0) by
      rw [tC, HM.out, if_neg hm0, if_neg (by rw [HTL.out]; exact hml)])
    have HQ0 := Lib.hid (show tQ true t.data.toList = (if t.data.toList[m]? = some 46 then mk true (dval (t.data.toList.take m ++ t.data.toList.drop (m + 1))) (10 ^ (t.data.toList.drop (m + 1)).length) else mk true (dval (t.data.toList.take m)) (dval (t.data.toList.drop (m + 1)))) by
      rw [tQ, HM.out, if_neg (by rw [HTL.out]; exact hml)])
    rw [← HU.out, HCH.out] at HC0 HQ0
    clear hm0 hml
    go_wp2_with fail
    have hw1 : IntKind.i64.wrap ((m : Int) + 1) = (m : Int) + 1 := IntWalk.i64_in _ (by omega)
    have hw2 : 0 ≤ (m : Int) + 1 := by omega
    have hw3 : ((m : Int) + 1).toNat = m + 1 := by omega
    have hw4 : m + 1 ≤ t.size := by omega
    have hw5 : (m : Int) + 1 ≤ t.size := by omega
    go_quiet (fail)
    clear hw1 hw2 hw3 hw4 hw5
    have HBQ := Lib.hid (below_drewN (Below.refl (w.alloc (.cells #[.bool false, .slice none 0 0, .slice none 0 0] 25 (0, 0))).heap.size (w.alloc (.cells #[.bool false, .slice none 0 0, .slice none 0 0] 25 (0, 0)))) nq)
    generalize (w.alloc (.cells #[.bool false, .slice none 0 0, .slice none 0 0] 25 (0, 0))).drewN nq = w1 at *
    generalize t.extract (m + 1) t.size = u at *
    have hmz : 1 ≤ m := by rcases Nat.eq_zero_or_pos m with h | h; (rw [h] at hz; cases hz); exact h
    have HUL := Lib.hid (show m + u.size < t.size by have h := HU.out; have h2 := HUS.out; have h3 := HTL.out; rw [h, List.length_drop, h3] at h2; omega)
    obtain ⟨⟨rc0, rc1, rc2⟩, rf0, rf1, rf2⟩ := HR.out.keep HBQ.out
    have hbw1 := HW.out.trans (HBQ.out.mono (by have := HWS.out; omega))
    have HS1 := Lib.hid (show w.heap.size + 1 ≤ w1.heap.size by have e1 := HBQ.out.size; rw [HWS.out] at e1; exact e1)
    clear hbe hz
    by_cases c46 : (t[m]).toNat = 46
    · have HCE := Lib.hid (show t[m] = 46 from UInt8.toNat_inj.1 (by rw [c46]; rfl))
      rw [HCE.out] at HC0 HQ0
      by_cases hu0 : u.size = 0
      · have hnil : u.data.toList = [] := List.eq_nil_of_length_eq_zero (by rw [HUS.out]; exact hu0)
        have HC := Lib.hid (show tC t.data.toList = 2 by rw [HC0.out, if_pos (.inr (.inl hnil))])
        have hul : u.toList = [] := by rw [ByteArray.toList_eq]; exact hnil
        clear hu0 hnil
        go_wp2_with fail
        refine bodyPost_ret (v := .tuple #[.agg #[.bool false, .slice none 0 0, .slice none 0 0], .int .i64 2]) (by simp [results, Try.results16, go_sem, rc0, rc1, rc2]) rfl ?_
        exact HP.out _ _ (tail_err HC.out (by decide) (below_put3 hbw1 (by omega) _ _ _))
      have HNIL := Lib.hid (show ¬ u.data.toList = [] by intro h; have h2 := HUS.out; rw [h] at h2; simp at h2; omega)
      have hul : u.toList.isEmpty = false := by rw [ByteArray.toList_eq]; cases hl : u.data.toList with | nil => exact absurd hl HNIL.out | cons _ _ => rfl
      by_cases hld : ldig u.data.toList = u.size
      · have HUALL := Lib.hid (show u.data.toList.all isD = true by have h := ldig_all u.data.toList; rwa [List.take_of_length_le (by rw [HUS.out, hld]; exact Nat.le_refl _)] at h)
        have HUV := Lib.hid (dval_lt HUALL.out (by rw [HUS.out]; exact hus))
        have HNC : Hid (¬ ((some (46 : UInt8) ≠ some 47 ∧ some (46 : UInt8) ≠ some 46) ∨ u.data.toList = [] ∨ ldig u.data.toList ≠ u.data.toList.length)) := by
          rintro (⟨h1, h2⟩ | h | h)
          · exact h2 rfl
          · exact HNIL.out h
          · exact h (by rw [hld, HUS.out])
        rw [if_neg HNC.out] at HC0
        have HLD := Lib.hid hld
        clear hld HNC
        rw [if_pos rfl] at HC0 HQ0
        go_wp2_with fail
        refine (qLeading u _ (by unfold maxLen; omega)).mono ?_
        rintro e w' ⟨rfl, rfl⟩
        rw [HLD.out]
        clear hul
        go_wp2_with fail
        refine (fromUint64 10 w1 (by decide) (by decide)).mono ?_
        rintro e w2 ⟨v2, rfl, h2, hb2⟩
        have H2 := Lib.hid h2
        clear h2
        have HPW := Lib.hid (ten_pow hus)
        go_wp2_with fail
        refine (Nt.pow v2 2 10 (u.size : Int) w2 (H2.out.num 2 (bp_lit (by decide))) (by omega) (by omega) (by omega)).mono ?_
        rintro e w3 ⟨v3, rfl, h3, hb3⟩
        rw [HPW.out.1]
        rw [HPW.out.2.1] at h3
        have H3 := Lib.hid h3
        clear h3
        have HTSZ := Lib.hid (show (t.extract 0 m ++ u).size ≤ 4000 ∧ 1 ≤ (t.extract 0 m ++ u).size by rw [ByteArray.size_append, HTS.out]; have := HUL.out; omega)
        have HCAT := Lib.hid (show (t.extract 0 m ++ u).data.toList = t.data.toList.take m ++ u.data.toList by rw [ByteArray.toList_data_append, HTK.out])
        have HCALL := Lib.hid (show (t.extract 0 m ++ u).data.toList.all isD = true by rw [HCAT.out, List.all_append, HALL.out, HUALL.out]; rfl)
        have HCV := Lib.hid (dval_lt HCALL.out (by rw [HCAT.out, List.length_append, List.length_take, HUS.out, HTL.out]; have := HUL.out; omega))
        have hts0 : (t.extract 0 m).size ≤ 4000 := by rw [HTS.out]; omega
        generalize hE : t.extract 0 m = pr at *
        have HE := Lib.hid hE
        clear hE
        go_wp2_with fail
        try rw [HE.out]
        refine (qDigits (pr ++ u) w3 HTSZ.out.1 HTSZ.out.2 HCALL.out).mono ?_
        rintro e w4 ⟨v4, rfl, h4, hb4⟩
        rw [HCAT.out] at h4
        have H4 := Lib.hid h4
        clear h4
        rw [HCAT.out] at HCV
        go_wp2_with fail
        refine (qReduce true v4 v3 501 _ _ w4 (H4.out.num 501 (Int.lt_of_lt_of_le HCV.out.2 (Bp_mono (by omega)))) ((H3.out.keep hb4).num 501 (bp_succ HPW.out.2.2)) (by omega)).mono ?_
        rintro e w5 ⟨v5, rfl, h5, hb5⟩
        rw [← HUS.out] at h5
        have hb24 := (hb2.trans (hb3.mono hb2.size)).trans (hb4.mono (Nat.le_trans hb2.size hb3.size))
        rw [← HQ0.out] at h5
        obtain ⟨qb, qa, qn, qc, ra, rn, rc, rfl⟩ := h5.form
        have HI := Lib.hid h5
        have HBW := Lib.hid ((HBQ.out.trans (hb24.mono HBQ.out.size)).trans (hb5.mono (Nat.le_trans HBQ.out.size hb24.size)))
        have HBS := Lib.hid (show w.heap.size + 1 ≤ w4.heap.size by have e1 := hb24.size; have e2 := HS1.out; omega)
        clear rc0 rc1 rc2 rf0 rf1 rf2
        obtain ⟨⟨rc0, rc1, rc2⟩, rf0, rf1, rf2⟩ := HR.out.keep HBW.out
        clear h5
        go_wp2_with fail
        have hbw := HW.out.trans (HBW.out.mono (by have := HWS.out; omega))
        refine bodyPost_ret (v := .tuple #[.agg #[.bool qb, .slice qa qn qc, .slice ra rn rc], .int .i64 0]) (by simp [results, Try.results16, go_sem, rc0, rc1, rc2]) rfl ?_
        exact HP.out _ _ (.inl ⟨HC0.out, fin_qe (base := w.heap.size + 1) (HI.out.mono HBS.out) (by omega) hbw (by omega)⟩)
      · have HC := Lib.hid (show tC t.data.toList = 2 by rw [HC0.out, if_pos (.inr (.inr (by rw [HUS.out]; exact hld)))])
        have HLD := Lib.hid hld
        clear hld
        go_wp2_with fail
        refine (qLeading u _ (by unfold maxLen; omega)).mono ?_
        rintro e w' ⟨rfl, rfl⟩
        have hne : ((ldig u.data.toList : Int) != (u.size : Int)) = true := by rw [bne_iff_ne]; have := HLD.out; omega
        clear HLD
        generalize ldig u.data.toList = mu at *
        go_wp2_with fail
        refine bodyPost_ret (v := .tuple #[.agg #[.bool false, .slice none 0 0, .slice none 0 0], .int .i64 2]) (by simp [results, Try.results16, go_sem, rc0, rc1, rc2]) rfl ?_
        exact HP.out _ _ (tail_err HC.out (by decide) (below_put3 hbw1 (by omega) _ _ _))
    by_cases c47 : (t[m]).toNat = 47
    · have HCE := Lib.hid (show t[m] = 47 from UInt8.toNat_inj.1 (by rw [c47]; rfl))
      rw [HCE.out] at HC0 HQ0
      clear c46
      by_cases hu0 : u.size = 0
      · have hnil : u.data.toList = [] := List.eq_nil_of_length_eq_zero (by rw [HUS.out]; exact hu0)
        have HC := Lib.hid (show tC t.data.toList = 2 by rw [HC0.out, if_pos (.inr (.inl hnil))])
        have hul : u.toList = [] := by rw [ByteArray.toList_eq]; exact hnil
        clear hu0 hnil
        go_wp2_with fail
        refine bodyPost_ret (v := .tuple #[.agg #[.bool false, .slice none 0 0, .slice none 0 0], .int .i64 2]) (by simp [results, Try.results16, go_sem, rc0, rc1, rc2]) rfl ?_
        exact HP.out _ _ (tail_err HC.out (by decide) (below_put3 hbw1 (by omega) _ _ _))
      have HNIL := Lib.hid (show ¬ u.data.toList = [] by intro h; have h2 := HUS.out; rw [h] at h2; simp at h2; omega)
      have hul : u.toList.isEmpty = false := by rw [ByteArray.toList_eq]; cases hl : u.data.toList with | nil => exact absurd hl HNIL.out | cons _ _ => rfl
      by_cases hld : ldig u.data.toList = u.size
      · have HUALL := Lib.hid (show u.data.toList.all isD = true by have h := ldig_all u.data.toList; rwa [List.take_of_length_le (by rw [HUS.out, hld]; exact Nat.le_refl _)] at h)
        have HUV := Lib.hid (dval_lt HUALL.out (by rw [HUS.out]; exact hus))
        have HNC : Hid (¬ ((some (47 : UInt8) ≠ some 47 ∧ some (47 : UInt8) ≠ some 46) ∨ u.data.toList = [] ∨ ldig u.data.toList ≠ u.data.toList.length)) := by
          rintro (⟨h1, h2⟩ | h | h)
          · exact h1 rfl
          · exact HNIL.out h
          · exact h (by rw [hld, HUS.out])
        rw [if_neg HNC.out] at HC0
        have HLD := Lib.hid hld
        clear hld HNC
        have h4746 : ¬ (some (47 : UInt8) = some 46) := by decide
        rw [if_neg h4746] at HC0 HQ0
        clear h4746
        by_cases hz0 : dval u.data.toList = 0
        · rw [if_pos hz0] at HC0
          have HZ := Lib.hid hz0
          clear hz0
          go_wp2_with fail
          refine (qLeading u _ (by unfold maxLen; omega)).mono ?_
          rintro e w' ⟨rfl, rfl⟩
          rw [HLD.out]
          clear hul
          go_wp2_with fail
          refine (qDigits u w1 hus (by omega) HUALL.out).mono ?_
          rintro e w2 ⟨v2, rfl, h2, hb2⟩
          have H2 := Lib.hid h2
          clear h2
          obtain ⟨az, cz, rfl⟩ := IsNew.zero H2.out HZ.out
          clear rc0 rc1 rc2 rf0 rf1 rf2
          have HB2 := Lib.hid (HBQ.out.trans (hb2.mono HBQ.out.size))
          obtain ⟨⟨rc0, rc1, rc2⟩, rf0, rf1, rf2⟩ := HR.out.keep HB2.out
          have hbw2 := HW.out.trans (HB2.out.mono (by have := HWS.out; omega))
          go_wp2_with fail
          refine bodyPost_ret (v := .tuple #[.agg #[.bool false, .slice none 0 0, .slice none 0 0], .int .i64 20]) (by simp [results, Try.results16, go_sem, rc0, rc1, rc2]) rfl ?_
          exact HP.out _ _ (tail_err HC0.out (by decide) (below_put3 hbw2 (by omega) _ _ _))
        · rw [if_neg hz0] at HC0
          have HZ := Lib.hid hz0
          clear hz0
          go_wp2_with fail
          refine (qLeading u _ (by unfold maxLen; omega)).mono ?_
          rintro e w' ⟨rfl, rfl⟩
          rw [HLD.out]
          clear hul
          go_wp2_with fail
          refine (qDigits u w1 hus (by omega) HUALL.out).mono ?_
          rintro e w2 ⟨v2, rfl, h2, hb2⟩
          have H2 := Lib.hid h2
          clear h2
          obtain ⟨az, nz, cz, rfl, hnz, _, _⟩ := IsNew.lenPos H2.out HZ.out
          have hne : ((nz : Int) == 0) = false := by rw [beq_eq_false_iff_ne]; omega
          have HPALL := Lib.hid (show (t.extract 0 m).data.toList.all isD = true by rw [HTK.out]; exact HALL.out)
          have HPV := Lib.hid (dval_lt HPALL.out (by rw [HTK.out, List.length_take, HTL.out]; omega))
          have HPS := Lib.hid (show (t.extract 0 m).size ≤ 4000 ∧ 1 ≤ (t.extract 0 m).size by rw [HTS.out]; omega)
          generalize hE : t.extract 0 m = pr at *
          have HE := Lib.hid hE
          clear hE
          go_wp2_with fail
          try rw [HE.out]
          refine (qDigits pr w2 HPS.out.1 HPS.out.2 HPALL.out).mono ?_
          rintro e w3 ⟨v3, rfl, h3, hb3⟩
          rw [HTK.out] at h3
          have H3 := Lib.hid h3
          clear h3 hne
          rw [HTK.out] at HPV
          go_wp2_with fail
          refine (qReduce true v3 _ 500 _ _ w3 (H3.out.num 500 HPV.out.2) ((H2.out.keep hb3).num 500 HUV.out.2) (by omega)).mono ?_
          rintro e w5 ⟨v5, rfl, h5, hb5⟩
          have hb24 := hb2.trans (hb3.mono hb2.size)
          rw [← HQ0.out] at h5
          obtain ⟨qb, qa, qn, qc, ra, rn, rc, rfl⟩ := h5.form
          have HI := Lib.hid h5
          have HBW := Lib.hid ((HBQ.out.trans (hb24.mono HBQ.out.size)).trans (hb5.mono (Nat.le_trans HBQ.out.size hb24.size)))
          have HBS := Lib.hid (show w.heap.size + 1 ≤ w3.heap.size by have e1 := hb24.size; have e2 := HS1.out; omega)
          clear rc0 rc1 rc2 rf0 rf1 rf2
          obtain ⟨⟨rc0, rc1, rc2⟩, rf0, rf1, rf2⟩ := HR.out.keep HBW.out
          clear h5
          go_wp2_with fail
          have hbw := HW.out.trans (HBW.out.mono (by have := HWS.out; omega))
          refine bodyPost_ret (v := .tuple #[.agg #[.bool qb, .slice qa qn qc, .slice ra rn rc], .int .i64 0]) (by simp [results, Try.results16, go_sem, rc0, rc1, rc2]) rfl ?_
          exact HP.out _ _ (.inl ⟨HC0.out, fin_qe (base := w.heap.size + 1) (HI.out.mono HBS.out) (by omega) hbw (by omega)⟩)
      · have HC := Lib.hid (show tC t.data.toList = 2 by rw [HC0.out, if_pos (.inr (.inr (by rw [HUS.out]; exact hld)))])
        have HLD := Lib.hid hld
        clear hld
        go_wp2_with fail
        refine (qLeading u _ (by unfold maxLen; omega)).mono ?_
        rintro e w' ⟨rfl, rfl⟩
        have hne : ((ldig u.data.toList : Int) != (u.size : Int)) = true := by rw [bne_iff_ne]; have := HLD.out; omega
        clear HLD
        generalize ldig u.data.toList = mu at *
        go_wp2_with fail
        refine bodyPost_ret (v := .tuple #[.agg #[.bool false, .slice none 0 0, .slice none 0 0], .int .i64 2]) (by simp [results, Try.results16, go_sem, rc0, rc1, rc2]) rfl ?_
        exact HP.out _ _ (tail_err HC.out (by decide) (below_put3 hbw1 (by omega) _ _ _))
    have k47 : ((t[m].toNat : Int) != 47) = true := by rw [bne_iff_ne]; omega
    have k46 : ((t[m].toNat : Int) != 46) = true := by rw [bne_iff_ne]; omega
    have hA : ¬ some t[m] = some 47 := by intro h; simp only [Option.some.injEq] at h; rw [h] at c47; exact c47 rfl
    have hB : ¬ some t[m] = some 46 := by intro h; simp only [Option.some.injEq] at h; rw [h] at c46; exact c46 rfl
    have HC := Lib.hid (show tC t.data.toList = 2 by rw [HC0.out, if_pos (.inl ⟨hA, hB⟩)])
    clear hA hB
    clear c46 c47
    go_wp2_with fail
    refine bodyPost_ret (v := .tuple #[.agg #[.bool false, .slice none 0 0, .slice none 0 0], .int .i64 2]) (by simp [results, Try.results16, go_sem, rc0, rc1, rc2]) rfl ?_
    exact HP.out _ _ (tail_err HC.out (by decide) (below_put3 hbw1 (by omega) _ _ _))
  · have hd0 : decide (0 < (s.size : Int)) = true := decide_eq_true (by omega)
    have hc : (((s[0]'h0).toNat : Int) == 45) = false := by rw [beq_eq_false_iff_ne]; omega
    have HF := Lib.hid (show fpN s.data.toList = false ∧ fpS s.data.toList = s.data.toList by
      have e1 : fpN s.data.toList = false := by
        unfold fpN
        rw [head_byte h0, decide_eq_false_iff_not]
        intro h
        simp only [Option.some.injEq] at h
        rw [h] at h5
        exact h5 rfl
      refine ⟨e1, ?_⟩
      rw [fpS, e1]; first | done | rfl)
    have hts : s.size ≤ 4000 := h4'
    rw [HF.out.1, HF.out.2] at HP
    clear h5 HF
    go_enter Try.func16, Try.ntmps16
    go_wp2_with fail
    clear hd0 hc
    refine (qLeading s _ (by unfold maxLen; omega)).mono ?_
    rintro e w' ⟨rfl, rfl⟩
    have HTL := Lib.hid (show s.data.toList.length = s.size by simp)
    have hle : ldig s.data.toList ≤ s.size := by rw [← HTL.out]; exact ldig_le _
    have HALL := Lib.hid (ldig_all s.data.toList)
    generalize hm : ldig s.data.toList = m at *
    have HM := Lib.hid hm
    clear hm
    by_cases hm0 : m = 0
    · have HC := Lib.hid (show tC s.data.toList = 2 by rw [tC, if_pos (by rw [HM.out]; exact hm0)])
      subst hm0
      go_wp2_with fail
      refine bodyPost_ret (v := .tuple #[.agg #[.bool false, .slice none 0 0, .slice none 0 0], .int .i64 2]) (by simp [results, Try.results16, go_sem]) rfl ?_
      exact HP.out _ _ (tail_err HC.out (by decide) HW.out)
    have hz : ((m : Int) == 0) = false := by rw [beq_eq_false_iff_ne]; omega
    by_cases hml : m = s.size
    · have HC := Lib.hid (show tC s.data.toList = 0 ∧ tQ false s.data.toList = mk false (dval s.data.toList) 1 by
        have e1 : ldig s.data.toList = s.data.toList.length := by rw [HM.out, HTL.out]; exact hml
        exact ⟨by rw [tC, if_neg (by rw [HM.out]; exact hm0), if_pos e1], by rw [tQ, if_pos e1]⟩)
      have HD := Lib.hid (show s.data.toList.all isD = true by have h := HALL.out; rwa [List.take_of_length_le (by rw [HTL.out]; omega)] at h)
      have HDL := Lib.hid (dval_lt HD.out (by rw [HTL.out]; exact hts))
      have hbe : ((m : Int) == (s.size : Int)) = true := by rw [hml]; simp
      have h1s : 1 ≤ s.size := by omega
      clear hm0 hml
      go_wp2_with fail
      refine (qDigits s _ hts h1s HD.out).mono ?_
      rintro e w2 ⟨v2, rfl, h2, hb2⟩
      have H2 := Lib.hid h2
      clear h2 hbe hz
      go_wp2_with fail
      refine (fromUint64 1 w2 (by decide) (by decide)).mono ?_
      rintro e w3 ⟨v3, rfl, h3, hb3⟩
      have H3 := Lib.hid h3
      clear h3
      go_wp2_with fail
      refine (qReduce false v2 v3 500 (dval s.data.toList) 1 w3 ((H2.out.keep hb3).num 500 HDL.out.2) (H3.out.num 500 (Int.lt_of_lt_of_le (bp_lit (by decide)) (Bp_mono (by omega)))) (by omega)).mono ?_
      rintro e w4 ⟨v4, rfl, h4, hb4⟩
      rw [← HC.out.2] at h4
      obtain ⟨qb, qa, qn, qc, ra, rn, rc, rfl⟩ := h4.form
      have HI := Lib.hid h4
      have HBW := Lib.hid ((hb2.trans (hb3.mono hb2.size)).trans (hb4.mono (Nat.le_trans hb2.size hb3.size)))
      have HBS := Lib.hid (show w.heap.size + 1 ≤ w3.heap.size by have e1 := hb2.size; have e2 := hb3.size; rw [HWS.out] at e1; omega)
      obtain ⟨⟨rc0, rc1, rc2⟩, rf0, rf1, rf2⟩ := HR.out.keep HBW.out
      clear h4
      go_wp2_with fail
      have hbw := HW.out.trans (HBW.out.mono (by have := HWS.out; omega))
      refine bodyPost_ret (v := .tuple #[.agg #[.bool qb, .slice qa qn qc, .slice ra rn rc], .int .i64 0]) (by simp [results, Try.results16, go_sem, rc0, rc1, rc2]) rfl ?_
      exact HP.out _ _ (.inl ⟨HC.out.1, fin_qe (base := w.heap.size + 1) (HI.out.mono HBS.out) (by omega) hbw (by omega)⟩)
    have hbe : ((m : Int) == (s.size : Int)) = false := by rw [beq_eq_false_iff_ne]; omega
    have hlt : m < s.size := by omega
    have hcb : (s[m]).toNat < 256 := (s[m]).toNat_lt
    have HCH := Lib.hid (show s.data.toList[m]? = some s[m] by rw [List.getElem?_eq_getElem (by rw [HTL.out]; exact hlt)]; rfl)
    have HU := Lib.hid (extract_list s (m + 1))
    have hus : (s.extract (m + 1) s.size).size ≤ 4000 := by simp; omega
    have HUS := Lib.hid (show (s.extract (m + 1) s.size).data.toList.length = (s.extract (m + 1) s.size).size by simp)
    have HTK := Lib.hid (show (s.extract 0 m).data.toList = s.data.toList.take m by simp)
    have HTS := Lib.hid (show (s.extract 0 m).size = m by simp; omega)
    have HC0 := Lib.hid (show tC s.data.toList = (if (s.data.toList[m]? ≠ some 47 ∧ s.data.toList[m]? ≠ some 46) ∨ s.data.toList.drop (m + 1) = [] ∨ ldig (s.data.toList.drop (m + 1)) ≠ (s.data.toList.drop (m + 1)).length then 2 else if s.data.toList[m]? = some 46 then 0 else if dval (s.data.toList.drop (m + 1)) = 0 then 20 else 0) by
      rw [tC, HM.out, if_neg hm0, if_neg (by rw [HTL.out]; exact hml)])
    have HQ0 := Lib.hid (show tQ false s.data.toList = (if s.data.toList[m]? = some 46 then mk false (dval (s.data.toList.take m ++ s.data.toList.drop (m + 1))) (10 ^ (s.data.toList.drop (m + 1)).length) else mk false (dval (s.data.toList.take m)) (dval (s.data.toList.drop (m + 1)))) by
      rw [tQ, HM.out, if_neg (by rw [HTL.out]; exact hml)])
    rw [← HU.out, HCH.out] at HC0 HQ0
    clear hm0 hml
    go_wp2_with fail
    have hw1 : IntKind.i64.wrap ((m : Int) + 1) = (m : Int) + 1 := IntWalk.i64_in _ (by omega)
    have hw2 : 0 ≤ (m : Int) + 1 := by omega
    have hw3 : ((m : Int) + 1).toNat = m + 1 := by omega
    have hw4 : m + 1 ≤ s.size := by omega
    have hw5 : (m : Int) + 1 ≤ s.size := by omega
    go_quiet (fail)
    clear hw1 hw2 hw3 hw4 hw5
    have HBQ := Lib.hid (below_drewN (Below.refl (w.alloc (.cells #[.bool false, .slice none 0 0, .slice none 0 0] 25 (0, 0))).heap.size (w.alloc (.cells #[.bool false, .slice none 0 0, .slice none 0 0] 25 (0, 0)))) nq)
    generalize (w.alloc (.cells #[.bool false, .slice none 0 0, .slice none 0 0] 25 (0, 0))).drewN nq = w1 at *
    generalize s.extract (m + 1) s.size = u at *
    have hmz : 1 ≤ m := by rcases Nat.eq_zero_or_pos m with h | h; (rw [h] at hz; cases hz); exact h
    have HUL := Lib.hid (show m + u.size < s.size by have h := HU.out; have h2 := HUS.out; have h3 := HTL.out; rw [h, List.length_drop, h3] at h2; omega)
    obtain ⟨⟨rc0, rc1, rc2⟩, rf0, rf1, rf2⟩ := HR.out.keep HBQ.out
    have hbw1 := HW.out.trans (HBQ.out.mono (by have := HWS.out; omega))
    have HS1 := Lib.hid (show w.heap.size + 1 ≤ w1.heap.size by have e1 := HBQ.out.size; rw [HWS.out] at e1; exact e1)
    clear hbe hz
    by_cases c46 : (s[m]).toNat = 46
    · have HCE := Lib.hid (show s[m] = 46 from UInt8.toNat_inj.1 (by rw [c46]; rfl))
      rw [HCE.out] at HC0 HQ0
      by_cases hu0 : u.size = 0
      · have hnil : u.data.toList = [] := List.eq_nil_of_length_eq_zero (by rw [HUS.out]; exact hu0)
        have HC := Lib.hid (show tC s.data.toList = 2 by rw [HC0.out, if_pos (.inr (.inl hnil))])
        have hul : u.toList = [] := by rw [ByteArray.toList_eq]; exact hnil
        clear hu0 hnil
        go_wp2_with fail
        refine bodyPost_ret (v := .tuple #[.agg #[.bool false, .slice none 0 0, .slice none 0 0], .int .i64 2]) (by simp [results, Try.results16, go_sem, rc0, rc1, rc2]) rfl ?_
        exact HP.out _ _ (tail_err HC.out (by decide) (below_put3 hbw1 (by omega) _ _ _))
      have HNIL := Lib.hid (show ¬ u.data.toList = [] by intro h; have h2 := HUS.out; rw [h] at h2; simp at h2; omega)
      have hul : u.toList.isEmpty = false := by rw [ByteArray.toList_eq]; cases hl : u.data.toList with | nil => exact absurd hl HNIL.out | cons _ _ => rfl
      by_cases hld : ldig u.data.toList = u.size
      · have HUALL := Lib.hid (show u.data.toList.all isD = true by have h := ldig_all u.data.toList; rwa [List.take_of_length_le (by rw [HUS.out, hld]; exact Nat.le_refl _)] at h)
        have HUV := Lib.hid (dval_lt HUALL.out (by rw [HUS.out]; exact hus))
        have HNC : Hid (¬ ((some (46 : UInt8) ≠ some 47 ∧ some (46 : UInt8) ≠ some 46) ∨ u.data.toList = [] ∨ ldig u.data.toList ≠ u.data.toList.length)) := by
          rintro (⟨h1, h2⟩ | h | h)
          · exact h2 rfl
          · exact HNIL.out h
          · exact h (by rw [hld, HUS.out])
        rw [if_neg HNC.out] at HC0
        have HLD := Lib.hid hld
        clear hld HNC
        rw [if_pos rfl] at HC0 HQ0
        go_wp2_with fail
        refine (qLeading u _ (by unfold maxLen; omega)).mono ?_
        rintro e w' ⟨rfl, rfl⟩
        rw [HLD.out]
        clear hul
        go_wp2_with fail
        refine (fromUint64 10 w1 (by decide) (by decide)).mono ?_
        rintro e w2 ⟨v2, rfl, h2, hb2⟩
        have H2 := Lib.hid h2
        clear h2
        have HPW := Lib.hid (ten_pow hus)
        go_wp2_with fail
        refine (Nt.pow v2 2 10 (u.size : Int) w2 (H2.out.num 2 (bp_lit (by decide))) (by omega) (by omega) (by omega)).mono ?_
        rintro e w3 ⟨v3, rfl, h3, hb3⟩
        rw [HPW.out.1]
        rw [HPW.out.2.1] at h3
        have H3 := Lib.hid h3
        clear h3
        have HTSZ := Lib.hid (show (s.extract 0 m ++ u).size ≤ 4000 ∧ 1 ≤ (s.extract 0 m ++ u).size by rw [ByteArray.size_append, HTS.out]; have := HUL.out; omega)
        have HCAT := Lib.hid (show (s.extract 0 m ++ u).data.toList = s.data.toList.take m ++ u.data.toList by rw [ByteArray.toList_data_append, HTK.out])
        have HCALL := Lib.hid (show (s.extract 0 m ++ u).data.toList.all isD = true by rw [HCAT.out, List.all_append, HALL.out, HUALL.out]; rfl)
        have HCV := Lib.hid (dval_lt HCALL.out (by rw [HCAT.out, List.length_append, List.length_take, HUS.out, HTL.out]; have := HUL.out; omega))
        have hts0 : (s.extract 0 m).size ≤ 4000 := by rw [HTS.out]; omega
        generalize hE : s.extract 0 m = pr at *
        have HE := Lib.hid hE
        clear hE
        go_wp2_with fail
        try rw [HE.out]
        refine (qDigits (pr ++ u) w3 HTSZ.out.1 HTSZ.out.2 HCALL.out).mono ?_
        rintro e w4 ⟨v4, rfl, h4, hb4⟩
        rw [HCAT.out] at h4
        have H4 := Lib.hid h4
        clear h4
        rw [HCAT.out] at HCV
        go_wp2_with fail
        refine (qReduce false v4 v3 501 _ _ w4 (H4.out.num 501 (Int.lt_of_lt_of_le HCV.out.2 (Bp_mono (by omega)))) ((H3.out.keep hb4).num 501 (bp_succ HPW.out.2.2)) (by omega)).mono ?_
        rintro e w5 ⟨v5, rfl, h5, hb5⟩
        rw [← HUS.out] at h5
        have hb24 := (hb2.trans (hb3.mono hb2.size)).trans (hb4.mono (Nat.le_trans hb2.size hb3.size))
        rw [← HQ0.out] at h5
        obtain ⟨qb, qa, qn, qc, ra, rn, rc, rfl⟩ := h5.form
        have HI := Lib.hid h5
        have HBW := Lib.hid ((HBQ.out.trans (hb24.mono HBQ.out.size)).trans (hb5.mono (Nat.le_trans HBQ.out.size hb24.size)))
        have HBS := Lib.hid (show w.heap.size + 1 ≤ w4.heap.size by have e1 := hb24.size; have e2 := HS1.out; omega)
        clear rc0 rc1 rc2 rf0 rf1 rf2
        obtain ⟨⟨rc0, rc1, rc2⟩, rf0, rf1, rf2⟩ := HR.out.keep HBW.out
        clear h5
        go_wp2_with fail
        have hbw := HW.out.trans (HBW.out.mono (by have := HWS.out; omega))
        refine bodyPost_ret (v := .tuple #[.agg #[.bool qb, .slice qa qn qc, .slice ra rn rc], .int .i64 0]) (by simp [results, Try.results16, go_sem, rc0, rc1, rc2]) rfl ?_
        exact HP.out _ _ (.inl ⟨HC0.out, fin_qe (base := w.heap.size + 1) (HI.out.mono HBS.out) (by omega) hbw (by omega)⟩)
      · have HC := Lib.hid (show tC s.data.toList = 2 by rw [HC0.out, if_pos (.inr (.inr (by rw [HUS.out]; exact hld)))])
        have HLD := Lib.hid hld
        clear hld
        go_wp2_with fail
        refine (qLeading u _ (by unfold maxLen; omega)).mono ?_
        rintro e w' ⟨rfl, rfl⟩
        have hne : ((ldig u.data.toList : Int) != (u.size : Int)) = true := by rw [bne_iff_ne]; have := HLD.out; omega
        clear HLD
        generalize ldig u.data.toList = mu at *
        go_wp2_with fail
        refine bodyPost_ret (v := .tuple #[.agg #[.bool false, .slice none 0 0, .slice none 0 0], .int .i64 2]) (by simp [results, Try.results16, go_sem, rc0, rc1, rc2]) rfl ?_
        exact HP.out _ _ (tail_err HC.out (by decide) (below_put3 hbw1 (by omega) _ _ _))
    by_cases c47 : (s[m]).toNat = 47
    · have HCE := Lib.hid (show s[m] = 47 from UInt8.toNat_inj.1 (by rw [c47]; rfl))
      rw [HCE.out] at HC0 HQ0
      clear c46
      by_cases hu0 : u.size = 0
      · have hnil : u.data.toList = [] := List.eq_nil_of_length_eq_zero (by rw [HUS.out]; exact hu0)
        have HC := Lib.hid (show tC s.data.toList = 2 by rw [HC0.out, if_pos (.inr (.inl hnil))])
        have hul : u.toList = [] := by rw [ByteArray.toList_eq]; exact hnil
        clear hu0 hnil
        go_wp2_with fail
        refine bodyPost_ret (v := .tuple #[.agg #[.bool false, .slice none 0 0, .slice none 0 0], .int .i64 2]) (by simp [results, Try.results16, go_sem, rc0, rc1, rc2]) rfl ?_
        exact HP.out _ _ (tail_err HC.out (by decide) (below_put3 hbw1 (by omega) _ _ _))
      have HNIL := Lib.hid (show ¬ u.data.toList = [] by intro h; have h2 := HUS.out; rw [h] at h2; simp at h2; omega)
      have hul : u.toList.isEmpty = false := by rw [ByteArray.toList_eq]; cases hl : u.data.toList with | nil => exact absurd hl HNIL.out | cons _ _ => rfl
      by_cases hld : ldig u.data.toList = u.size
      · have HUALL := Lib.hid (show u.data.toList.all isD = true by have h := ldig_all u.data.toList; rwa [List.take_of_length_le (by rw [HUS.out, hld]; exact Nat.le_refl _)] at h)
        have HUV := Lib.hid (dval_lt HUALL.out (by rw [HUS.out]; exact hus))
        have HNC : Hid (¬ ((some (47 : UInt8) ≠ some 47 ∧ some (47 : UInt8) ≠ some 46) ∨ u.data.toList = [] ∨ ldig u.data.toList ≠ u.data.toList.length)) := by
          rintro (⟨h1, h2⟩ | h | h)
          · exact h1 rfl
          · exact HNIL.out h
          · exact h (by rw [hld, HUS.out])
        rw [if_neg HNC.out] at HC0
        have HLD := Lib.hid hld
        clear hld HNC
        have h4746 : ¬ (some (47 : UInt8) = some 46) := by decide
        rw [if_neg h4746] at HC0 HQ0
        clear h4746
        by_cases hz0 : dval u.data.toList = 0
        · rw [if_pos hz0] at HC0
          have HZ := Lib.hid hz0
          clear hz0
          go_wp2_with fail
          refine (qLeading u _ (by unfold maxLen; omega)).mono ?_
          rintro e w' ⟨rfl, rfl⟩
          rw [HLD.out]
          clear hul
          go_wp2_with fail
          refine (qDigits u w1 hus (by omega) HUALL.out).mono ?_
          rintro e w2 ⟨v2, rfl, h2, hb2⟩
          have H2 := Lib.hid h2
          clear h2
          obtain ⟨az, cz, rfl⟩ := IsNew.zero H2.out HZ.out
          clear rc0 rc1 rc2 rf0 rf1 rf2
          have HB2 := Lib.hid (HBQ.out.trans (hb2.mono HBQ.out.size))
          obtain ⟨⟨rc0, rc1, rc2⟩, rf0, rf1, rf2⟩ := HR.out.keep HB2.out
          have hbw2 := HW.out.trans (HB2.out.mono (by have := HWS.out; omega))
          go_wp2_with fail
          refine bodyPost_ret (v := .tuple #[.agg #[.bool false, .slice none 0 0, .slice none 0 0], .int .i64 20]) (by simp [results, Try.results16, go_sem, rc0, rc1, rc2]) rfl ?_
          exact HP.out _ _ (tail_err HC0.out (by decide) (below_put3 hbw2 (by omega) _ _ _))
        · rw [if_neg hz0] at HC0
          have HZ := Lib.hid hz0
          clear hz0
          go_wp2_with fail
          refine (qLeading u _ (by unfold maxLen; omega)).mono ?_
          rintro e w' ⟨rfl, rfl⟩
          rw [HLD.out]
          clear hul
          go_wp2_with fail
          refine (qDigits u w1 hus (by omega) HUALL.out).mono ?_
          rintro e w2 ⟨v2, rfl, h2, hb2⟩
          have H2 := Lib.hid h2
          clear h2
          obtain ⟨az, nz, cz, rfl, hnz, _, _⟩ := IsNew.lenPos H2.out HZ.out
          have hne : ((nz : Int) == 0) = false := by rw [beq_eq_false_iff_ne]; omega
          have HPALL := Lib.hid (show (s.extract 0 m).data.toList.all isD = true by rw [HTK.out]; exact HALL.out)
          have HPV := Lib.hid (dval_lt HPALL.out (by rw [HTK.out, List.length_take, HTL.out]; omega))
          have HPS := Lib.hid (show (s.extract 0 m).size ≤ 4000 ∧ 1 ≤ (s.extract 0 m).size by rw [HTS.out]; omega)
          generalize hE : s.extract 0 m = pr at *
          have HE := Lib.hid hE
          clear hE
          go_wp2_with fail
          try rw [HE.out]
          refine (qDigits pr w2 HPS.out.1 HPS.out.2 HPALL.out).mono ?_
          rintro e w3 ⟨v3, rfl, h3, hb3⟩
          rw [HTK.out] at h3
          have H3 := Lib.hid h3
          clear h3 hne
          rw [HTK.out] at HPV
          go_wp2_with fail
          refine (qReduce false v3 _ 500 _ _ w3 (H3.out.num 500 HPV.out.2) ((H2.out.keep hb3).num 500 HUV.out.2) (by omega)).mono ?_
          rintro e w5 ⟨v5, rfl, h5, hb5⟩
          have hb24 := hb2.trans (hb3.mono hb2.size)
          rw [← HQ0.out] at h5
          obtain ⟨qb, qa, qn, qc, ra, rn, rc, rfl⟩ := h5.form
          have HI := Lib.hid h5
          have HBW := Lib.hid ((HBQ.out.trans (hb24.mono HBQ.out.size)).trans (hb5.mono (Nat.le_trans HBQ.out.size hb24.size)))
          have HBS := Lib.hid (show w.heap.size + 1 ≤ w3.heap.size by have e1 := hb24.size; have e2 := HS1.out; omega)
          clear rc0 rc1 rc2 rf0 rf1 rf2
          obtain ⟨⟨rc0, rc1, rc2⟩, rf0, rf1, rf2⟩ := HR.out.keep HBW.out
          clear h5
          go_wp2_with fail
          have hbw := HW.out.trans (HBW.out.mono (by have := HWS.out; omega))
          refine bodyPost_ret (v := .tuple #[.agg #[.bool qb, .slice qa qn qc, .slice ra rn rc], .int .i64 0]) (by simp [results, Try.results16, go_sem, rc0, rc1, rc2]) rfl ?_
          exact HP.out _ _ (.inl ⟨HC0.out, fin_qe (base := w.heap.size + 1) (HI.out.mono HBS.out) (by omega) hbw (by omega)⟩)
      · have HC := Lib.hid (show tC s.data.toList = 2 by rw [HC0.out, if_pos (.inr (.inr (by rw [HUS.out]; exact hld)))])
        have HLD := Lib.hid hld
        clear hld
        go_wp2_with fail
        refine (qLeading u _ (by unfold maxLen; omega)).mono ?_
        rintro e w' ⟨rfl, rfl⟩
        have hne : ((ldig u.data.toList : Int) != (u.size : Int)) = true := by rw [bne_iff_ne]; have := HLD.out; omega
        clear HLD
        generalize ldig u.data.toList = mu at *
        go_wp2_with fail
        refine bodyPost_ret (v := .tuple #[.agg #[.bool false, .slice none 0 0, .slice none 0 0], .int .i64 2]) (by simp [results, Try.results16, go_sem, rc0, rc1, rc2]) rfl ?_
        exact HP.out _ _ (tail_err HC.out (by decide) (below_put3 hbw1 (by omega) _ _ _))
    have k47 : ((s[m].toNat : Int) != 47) = true := by rw [bne_iff_ne]; omega
    have k46 : ((s[m].toNat : Int) != 46) = true := by rw [bne_iff_ne]; omega
    have hA : ¬ some s[m] = some 47 := by intro h; simp only [Option.some.injEq] at h; rw [h] at c47; exact c47 rfl
    have hB : ¬ some s[m] = some 46 := by intro h; simp only [Option.some.injEq] at h; rw [h] at c46; exact c46 rfl
    have HC := Lib.hid (show tC s.data.toList = 2 by rw [HC0.out, if_pos (.inl ⟨hA, hB⟩)])
    clear hA hB
    clear c46 c47
    go_wp2_with fail
    refine bodyPost_ret (v := .tuple #[.agg #[.bool false, .slice none 0 0, .slice none 0 0], .int .i64 2]) (by simp [results, Try.results16, go_sem, rc0, rc1, rc2]) rfl ?_
    exact HP.out _ _ (tail_err HC.out (by decide) (below_put3 hbw1 (by omega) _ _ _))
end Go.Proofs.Ytpplleoiehnlkaa.Nt
