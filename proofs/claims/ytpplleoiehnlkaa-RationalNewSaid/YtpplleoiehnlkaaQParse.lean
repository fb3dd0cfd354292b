/-
  Contracts of rational.leadingDigits, digits and Parse.
-/
import Derived.Test.YtpplleoiehnlkaaQDiv
import Derived.Test.YtpplleoiehnlkaaRefH
namespace Go.Proofs.Ytpplleoiehnlkaa.Nt
open Go.ChangeShapes Go.WideShapes Go.ChangeAt Go.RowKit B
set_option linter.unusedVariables false

/-- how many decimal digits stand at the beginning -/
def ldig (b : List UInt8) : Nat := (b.takeWhile isD).length
theorem ldig_stop {b : List UInt8} {k : Nat} (hk : k ≤ b.length) (ha : (b.take k).all isD = true) (hs : k = b.length ∨ ∃ x, b[k]? = some x ∧ isD x = false) : ldig b = k := by
  unfold ldig
  induction b generalizing k with
  | nil => simp at hk; simp [hk]
  | cons c b ih =>
    rcases k with _ | k
    · rcases hs with h | ⟨x, h1, h2⟩
      · simp at h
      · simp at h1; subst h1; simp [h2]
    · simp at ha hk
      rw [List.takeWhile_cons, if_pos ha.1]
      simp only [List.length_cons]
      congr 1
      refine ih hk (by simpa using ha.2) ?_
      rcases hs with h | ⟨x, h1, h2⟩
      · left; simpa using h
      · right; exact ⟨x, by simpa using h1, h2⟩
theorem ldig_le (b : List UInt8) : ldig b ≤ b.length := by
  unfold ldig
  induction b with
  | nil => simp
  | cons c b ih => rw [List.takeWhile_cons]; split <;> simp <;> omega
theorem ldig_all (b : List UInt8) : (b.take (ldig b)).all isD = true := by
  unfold ldig
  induction b with
  | nil => simp
  | cons c b ih =>
    rw [List.takeWhile_cons]
    split
    · rename_i h
      simp only [List.length_cons, List.take_succ_cons, List.all_cons, h, Bool.true_and]; exact ih
    · simp
set_option maxHeartbeats 1000000 in
theorem qLeading (s : ByteArray) (w : World) (hs : s.size ≤ maxLen) :
    Calls Try.prog 52 #[.string s] w fun e w' => e = .returned (.int .i64 (ldig s.data.toList : Int)) ∧ w = w' := by
  unfold maxLen at hs
  have HB := Lib.hid (show s.data.toList.length = s.size by simp)
  go_enter Try.func52, Try.ntmps52
  go_wp2_with fail
  go_loopg [3] s.size (fun gk i wr => ∃ k : Nat, k ≤ s.size ∧ s.size - k ≤ gk ∧ i = .int .i64 k ∧ Hid ((s.data.toList.take k).all isD = true) ∧ wr = w)
  case atStart => exact ⟨0, Nat.zero_le _, Nat.le_refl _, rfl, rfl, rfl⟩
  case round =>
    obtain ⟨k, hk, hgk, rfl, HA, rfl⟩ := hrel
    by_cases hlt : k < s.size
    · have HT := Lib.hid (bytes_take s k hlt)
      have hcb : (s[k]).toNat < 256 := (s[k]).toNat_lt
      have hlt1 : decide ((k : Int) < s.size) = true := by simp; omega
      by_cases hbad : ((s[k]).toNat : Int) < 48 ∨ 57 < ((s[k]).toNat : Int)
      · have HR := Lib.hid (show ldig s.data.toList = k from ldig_stop (by rw [HB.out]; omega) HA.out (.inr ⟨s[k], by rw [List.getElem?_eq_getElem (by rw [HB.out]; exact hlt)]; rfl, by simp [isD]; omega⟩))
        rcases hbad with hlo | hhi
        · have hd1 : decide (48 ≤ ((s[k]).toNat : Int)) = false := by simp; omega
          go_wp2
          go_ret
          exact ⟨by rw [HR.out]; rfl, rfl⟩
        · have hd1 : decide (48 ≤ ((s[k]).toNat : Int)) = true := by simp; omega
          have hd2 : decide (((s[k]).toNat : Int) ≤ 57) = false := by simp; omega
          go_wp2
          go_ret
          exact ⟨by rw [HR.out]; rfl, rfl⟩
      · have hd1 : decide (48 ≤ ((s[k]).toNat : Int)) = true := by simp; omega
        have hd2 : decide (((s[k]).toNat : Int) ≤ 57) = true := by simp; omega
        have HD := Lib.hid (show isD s[k] = true by simp [isD]; omega)
        clear hbad
        go_wp2
        go_roundg (s.size - (k + 1))
        case measure => omega
        case rel => exact ⟨k + 1, by omega, Nat.le_refl _, by go_num, by show _ = _; rw [HT.out, List.all_append, HA.out]; simp [HD.out], rfl⟩
    · obtain rfl : k = s.size := by omega
      have HR := Lib.hid (show ldig s.data.toList = s.size from ldig_stop (by rw [HB.out]; omega) HA.out (.inl HB.out.symm))
      go_wp2
      go_ret
      exact ⟨by rw [HR.out]; rfl, rfl⟩

theorem dval_zero (b : List UInt8) : dval (48 :: b) = dval b := by
  unfold dval; rfl
theorem extract_list (t : ByteArray) (k : Nat) : (t.extract k t.size).data.toList = t.data.toList.drop k := by
  simp
  exact List.take_of_length_le (by simp)
set_option maxHeartbeats 1000000 in
theorem qDigits (s : ByteArray) (w : World) (hs : s.size ≤ 4000) (h1 : 1 ≤ s.size) (hd : s.data.toList.all isD = true) :
    Calls Try.prog 53 #[.string s] w (Ret1 w.heap.size w (dval s.data.toList)) := by
  have HD := Lib.hid hd
  clear hd
  go_enter Try.func53, Try.ntmps53
  go_wp2_with fail
  go_loopg [0] s.size (fun gk v wr => ∃ t : ByteArray, v = .string t ∧ t.size ≤ gk ∧ 1 ≤ t.size ∧ t.size ≤ 4000 ∧ Hid (t.data.toList.all isD = true ∧ dval t.data.toList = dval s.data.toList) ∧ wr = w)
  case atStart => exact ⟨s, rfl, Nat.le_refl _, h1, hs, ⟨HD.out, rfl⟩, rfl⟩
  case round =>
    obtain ⟨t, rfl, hgk, ht1, ht2, HT, rfl⟩ := hrel
    have HB := Lib.hid (show t.data.toList.length = t.size by simp)
    have hcb : (t[0]'ht1).toNat < 256 := (t[0]'ht1).toNat_lt
    have HHD := Lib.hid (show t.data.toList = (t[0]'ht1) :: t.data.toList.drop 1 by
      rcases hh : t.data.toList with _ | ⟨x, l⟩
      · have := HB.out; rw [hh] at this; simp at this; omega
      · have : t[0]'ht1 = x := by
          show t.data[0] = x
          have e : t.data.toList[0]'(by rw [hh]; simp) = x := by simp [hh]
          rw [← e]; simp
        rw [this]; rfl)
    have HE := Lib.hid (extract_list t 1)
    by_cases hlen : 1 < t.size
    · have hl1 : decide (1 < (t.size : Int)) = true := by simp; omega
      by_cases hz : (t[0]'ht1).toNat = 48
      · have hc : (((t[0]'ht1).toNat : Int) == 48) = true := by rw [hz]; rfl
        have HZ := Lib.hid (show t[0]'ht1 = 48 from UInt8.toNat_inj.1 (by rw [hz]; rfl))
        have HSZ := Lib.hid (show (t.extract 1 t.size).size = t.size - 1 by simp)
        clear hz
        go_wp2_with fail
        go_roundg (t.size - 1)
        case measure => omega
        case rel =>
          refine ⟨_, rfl, by rw [HSZ.out]; exact Nat.le_refl _, by rw [HSZ.out]; omega, by rw [HSZ.out]; omega, ⟨?_, ?_⟩, rfl⟩
          · rw [HE.out]
            have h := HT.out.1
            rw [HHD.out, List.all_cons, Bool.and_eq_true] at h
            exact h.2
          · rw [HE.out, ← HT.out.2]
            conv => rhs; rw [HHD.out, HZ.out, dval_zero]
      · have hc : (((t[0]'ht1).toNat : Int) == 48) = false := by rw [beq_eq_false_iff_ne]; omega
        have HOK := Lib.hid (show pval t.data.toList = dval s.data.toList by
          have h0 : ¬ 4000 < t.data.toList.length := by rw [HB.out]; omega
          have h9 : okDec t.data.toList = true := by
            have e0 : t.data.toList[0]?.getD 0 = t[0]'ht1 := by rw [HHD.out]; rfl
            have e1 : t.data.toList.isEmpty = false := by rw [HHD.out]; rfl
            unfold okDec
            rw [e0, e1, HT.out.1]
            simp [hz]
          rw [pval, if_neg h0, if_pos h9, HT.out.2])
        clear hz
        go_wp2_with fail
        refine (parse t wr (by unfold maxLen; omega)).mono ?_
        rintro e w1 ⟨v, rfl, h, hb⟩
        rw [HOK.out] at h
        go_wp2_with fail
        go_ret
        exact ⟨v, rfl, h, hb⟩
    · have hl1 : decide (1 < (t.size : Int)) = false := by simp; omega
      have HOK := Lib.hid (show pval t.data.toList = dval s.data.toList by
        have h0 : ¬ 4000 < t.data.toList.length := by rw [HB.out]; omega
        have h9 : okDec t.data.toList = true := by
          have e1 : t.data.toList.isEmpty = false := by rw [HHD.out]; rfl
          have e2 : decide (1 < t.data.toList.length) = false := by rw [HB.out]; simpa using hlen
          unfold okDec
          rw [e1, HT.out.1, e2]; rfl
        rw [pval, if_neg h0, if_pos h9, HT.out.2])
      go_wp2_with fail
      refine (parse t wr (by unfold maxLen; omega)).mono ?_
      rintro e w1 ⟨v, rfl, h, hb⟩
      rw [HOK.out] at h
      go_wp2_with fail
      go_ret
      exact ⟨v, rfl, h, hb⟩

/-- the parts of a text: sign, what follows it, the error number and the value -/
def fpN (b : List UInt8) : Bool := decide (b.head? = some 45)
def fpS (b : List UInt8) : List UInt8 := if fpN b then b.drop 1 else b
/-- the error number and the value of a text without its sign -/
def tC (L : List UInt8) : Int :=
  if ldig L = 0 then 2
  else if ldig L = L.length then 0
  else if (L[ldig L]? ≠ some 47 ∧ L[ldig L]? ≠ some 46) ∨ L.drop (ldig L + 1) = [] ∨ ldig (L.drop (ldig L + 1)) ≠ (L.drop (ldig L + 1)).length then 2
  else if L[ldig L]? = some 46 then 0
  else if dval (L.drop (ldig L + 1)) = 0 then 20 else 0
def tQ (ng : Bool) (L : List UInt8) : Rat :=
  if ldig L = L.length then mk ng (dval L) 1
  else if L[ldig L]? = some 46 then mk ng (dval (L.take (ldig L) ++ L.drop (ldig L + 1))) (10 ^ (L.drop (ldig L + 1)).length)
  else mk ng (dval (L.take (ldig L))) (dval (L.drop (ldig L + 1)))
def fpC (b : List UInt8) : Int := if 4000 < b.length then 4 else tC (fpS b)
def fpQ (b : List UInt8) : Rat := tQ (fpN b) (fpS b)
def RetFP (w : World) (b : List UInt8) (e : Ending) (w' : World) : Prop :=
  (fpC b = 0 ∧ RetQE w.heap.size w (fpQ b) 0 e w') ∨ (fpC b ≠ 0 ∧ ErrQ w (fpC b) e w')
/-- the same for a text without its sign -/
def RetTP (w : World) (ng : Bool) (L : List UInt8) (e : Ending) (w' : World) : Prop :=
  (tC L = 0 ∧ RetQE w.heap.size w (tQ ng L) 0 e w') ∨ (tC L ≠ 0 ∧ ErrQ w (tC L) e w')
theorem fp_of {w : World} {b : List UInt8} {e : Ending} {w' : World} (hb : ¬ 4000 < b.length) (h : RetTP w (fpN b) (fpS b) e w') : RetFP w b e w' := by
  unfold RetFP fpC fpQ
  rw [if_neg hb]; exact h
end Go.Proofs.Ytpplleoiehnlkaa.Nt
