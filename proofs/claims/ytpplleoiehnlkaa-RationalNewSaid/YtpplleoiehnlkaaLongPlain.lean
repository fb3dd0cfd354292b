/-
  Plain mathematics of the steps of long division: subtracting a multiple, adding back, guessing a digit.
-/
import Derived.Test.YtpplleoiehnlkaaMulPlain
namespace Go.Proofs.Ytpplleoiehnlkaa.Nt
set_option linter.unusedVariables false

/-- f times a row taken from a row -/
def smL (f : Int) : List Int → List Int → Int → Int → List Int
  | [], _, _, _ => []
  | w :: ws, [], c, b => ((w - c - b) % 4294967296) :: ws
  | w :: ws, v :: vs, c, b => ((w - (f * v + c) % 4294967296 - b) % 4294967296) :: smL f ws vs ((f * v + c) / 4294967296) (-((w - (f * v + c) % 4294967296 - b) / 4294967296))
def smF (f : Int) : List Int → List Int → Int → Int → Int
  | [], _, _, _ => 0
  | w :: _, [], c, b => -((w - c - b) / 4294967296)
  | w :: ws, v :: vs, c, b => smF f ws vs ((f * v + c) / 4294967296) (-((w - (f * v + c) % 4294967296 - b) / 4294967296))
theorem smL_len (f : Int) (ws vs : List Int) (c b : Int) : (smL f ws vs c b).length = ws.length := by
  induction ws generalizing vs c b with
  | nil => rfl
  | cons w ws ih => rcases vs with _ | ⟨v, vs⟩ <;> simp [smL, ih]
theorem smL_drop (f : Int) (ws vs : List Int) (c b : Int) : (smL f ws vs c b).drop (vs.length + 1) = ws.drop (vs.length + 1) := by
  induction ws generalizing vs c b with
  | nil => rfl
  | cons w ws ih =>
    rcases vs with _ | ⟨v, vs⟩
    · simp [smL]
    · simp [smL]; exact ih vs _ _
theorem smL_ds (f : Int) (ws vs : List Int) (c b : Int) (hw : Ds ws) : Ds (smL f ws vs c b) := by
  induction ws generalizing vs c b with
  | nil => exact Ds.nil
  | cons w ws ih =>
    rcases vs with _ | ⟨v, vs⟩
    · exact Ds.cons (by omega) hw.tail
    · exact Ds.cons (by omega) (ih vs _ _ hw.tail)
theorem smL_N (f : Int) (ws vs : List Int) (c b : Int) (h : vs.length < ws.length) : N (smL f ws vs c b) = N ws - f * N vs - c - b + Bp (vs.length + 1) * smF f ws vs c b := by
  induction ws generalizing vs c b with
  | nil => simp at h
  | cons w ws ih =>
    rcases vs with _ | ⟨v, vs⟩
    · simp [smL, smF, N, Bp]; omega
    · show (w - (f * v + c) % 4294967296 - b) % 4294967296 + 4294967296 * N (smL f ws vs ((f * v + c) / 4294967296) (-((w - (f * v + c) % 4294967296 - b) / 4294967296))) =
        w + 4294967296 * N ws - f * (v + 4294967296 * N vs) - c - b + 4294967296 * Bp (vs.length + 1) * smF f ws vs ((f * v + c) / 4294967296) (-((w - (f * v + c) % 4294967296 - b) / 4294967296))
      rw [ih vs _ _ (by simpa using h), Int.mul_add f v, Int.mul_left_comm f 4294967296, Int.mul_assoc]
      omega
theorem smF_bd {f : Int} (hf : 0 ≤ f ∧ f < 4294967296) (ws vs : List Int) (c b : Int) (hw : Ds ws) (hv : Ds vs) (hc : 0 ≤ c ∧ c < 4294967296) (hb : 0 ≤ b ∧ b ≤ 1) (h : vs.length < ws.length) : smF f ws vs c b = 0 ∨ smF f ws vs c b = 1 := by
  induction ws generalizing vs c b with
  | nil => simp at h
  | cons w ws ih =>
    have h1 := hw.head
    rcases vs with _ | ⟨v, vs⟩
    · show -((w - c - b) / 4294967296) = 0 ∨ -((w - c - b) / 4294967296) = 1
      omega
    · have h2 := mul_bd hf hv.head
      exact ih vs _ _ hw.tail hv.tail (by omega) (by omega) (by simpa using h)
theorem smL_step (f : Int) (r y : List Int) (i j : Nat) (c b : Int) (h1 : i + j < r.length) (h2 : j < y.length) :
    smL f (r.drop (i + j)) (y.drop j) c b = ((r[i + j]?.getD 0 - (f * y[j]?.getD 0 + c) % 4294967296 - b) % 4294967296) :: smL f (r.drop (i + (j + 1))) (y.drop (j + 1)) ((f * y[j]?.getD 0 + c) / 4294967296) (-((r[i + j]?.getD 0 - (f * y[j]?.getD 0 + c) % 4294967296 - b) / 4294967296)) ∧
    smF f (r.drop (i + j)) (y.drop j) c b = smF f (r.drop (i + (j + 1))) (y.drop (j + 1)) ((f * y[j]?.getD 0 + c) / 4294967296) (-((r[i + j]?.getD 0 - (f * y[j]?.getD 0 + c) % 4294967296 - b) / 4294967296)) := by
  rw [drop_cons h1, drop_cons h2, smL, smF, Nat.add_assoc]
  exact ⟨rfl, rfl⟩
theorem smL_last (f : Int) (r y : List Int) (i : Nat) (c b : Int) (h1 : i + y.length < r.length) :
    smL f (r.drop (i + y.length)) (y.drop y.length) c b = ((r[i + y.length]?.getD 0 - c - b) % 4294967296) :: r.drop (i + y.length + 1) ∧
    smF f (r.drop (i + y.length)) (y.drop y.length) c b = -((r[i + y.length]?.getD 0 - c - b) / 4294967296) := by
  rw [drop_cons h1, List.drop_length, smL, smF]
  exact ⟨rfl, rfl⟩

/-- a row added to a row -/
def abL : List Int → List Int → Int → List Int
  | [], _, _ => []
  | w :: ws, [], c => ((w + c) % 4294967296) :: ws
  | w :: ws, v :: vs, c => ((w + v + c) % 4294967296) :: abL ws vs ((w + v + c) / 4294967296)
def abF : List Int → List Int → Int → Int
  | [], _, _ => 0
  | w :: _, [], c => (w + c) / 4294967296
  | w :: ws, v :: vs, c => abF ws vs ((w + v + c) / 4294967296)
theorem abL_len (ws vs : List Int) (c : Int) : (abL ws vs c).length = ws.length := by
  induction ws generalizing vs c with
  | nil => rfl
  | cons w ws ih => rcases vs with _ | ⟨v, vs⟩ <;> simp [abL, ih]
theorem abL_drop (ws vs : List Int) (c : Int) : (abL ws vs c).drop (vs.length + 1) = ws.drop (vs.length + 1) := by
  induction ws generalizing vs c with
  | nil => rfl
  | cons w ws ih =>
    rcases vs with _ | ⟨v, vs⟩
    · simp [abL]
    · simp [abL]; exact ih vs _
theorem abL_ds (ws vs : List Int) (c : Int) (hw : Ds ws) : Ds (abL ws vs c) := by
  induction ws generalizing vs c with
  | nil => exact Ds.nil
  | cons w ws ih =>
    rcases vs with _ | ⟨v, vs⟩
    · exact Ds.cons (by omega) hw.tail
    · exact Ds.cons (by omega) (ih vs _ hw.tail)
theorem abL_N (ws vs : List Int) (c : Int) (h : vs.length < ws.length) : N (abL ws vs c) = N ws + N vs + c - Bp (vs.length + 1) * abF ws vs c := by
  induction ws generalizing vs c with
  | nil => simp at h
  | cons w ws ih =>
    rcases vs with _ | ⟨v, vs⟩
    · simp [abL, abF, N, Bp]; omega
    · show (w + v + c) % 4294967296 + 4294967296 * N (abL ws vs ((w + v + c) / 4294967296)) = w + 4294967296 * N ws + (v + 4294967296 * N vs) + c - 4294967296 * Bp (vs.length + 1) * abF ws vs ((w + v + c) / 4294967296)
      rw [ih vs _ (by simpa using h), Int.mul_assoc]
      omega
theorem abF_bd (ws vs : List Int) (c : Int) (hw : Ds ws) (hv : Ds vs) (hc : 0 ≤ c ∧ c ≤ 1) (h : vs.length < ws.length) : abF ws vs c = 0 ∨ abF ws vs c = 1 := by
  induction ws generalizing vs c with
  | nil => simp at h
  | cons w ws ih =>
    have h1 := hw.head
    rcases vs with _ | ⟨v, vs⟩
    · show (w + c) / 4294967296 = 0 ∨ (w + c) / 4294967296 = 1
      omega
    · have h2 := hv.head
      exact ih vs _ hw.tail hv.tail (by omega) (by simpa using h)
theorem abL_step (r y : List Int) (i j : Nat) (c : Int) (h1 : i + j < r.length) (h2 : j < y.length) :
    abL (r.drop (i + j)) (y.drop j) c = ((r[i + j]?.getD 0 + y[j]?.getD 0 + c) % 4294967296) :: abL (r.drop (i + (j + 1))) (y.drop (j + 1)) ((r[i + j]?.getD 0 + y[j]?.getD 0 + c) / 4294967296) := by
  rw [drop_cons h1, drop_cons h2, abL, Nat.add_assoc]
theorem abL_last (r y : List Int) (i : Nat) (c : Int) (h1 : i + y.length < r.length) :
    abL (r.drop (i + y.length)) (y.drop y.length) c = ((r[i + y.length]?.getD 0 + c) % 4294967296) :: r.drop (i + y.length + 1) := by
  rw [drop_cons h1, List.drop_length, abL]

/-- what a change of the row from place j on means for the number -/
theorem N_from (L M : List Int) (j : Nat) (hj : j ≤ L.length) : N (L.take j ++ M) = N L + Bp j * (N M - N (L.drop j)) := by
  have e := take_drop_N L j hj
  have hl : (L.take j).length = j := by simp; omega
  rw [N_app, hl, Int.mul_sub]
  omega

/-- u taken from a machine word -/
theorem u64_sub2 (x m b : Int) (hx : 0 ≤ x ∧ x < 4294967296) (hm : 0 ≤ m ∧ m < 4294967296) (hb : 0 ≤ b ∧ b ≤ 1) :
    IntKind.u64.wrap (IntKind.u64.wrap (x - m) - b) % 4294967296 = (x - m - b) % 4294967296 ∧ IntKind.u64.wrap (IntKind.u64.wrap (x - m) - b) / 9223372036854775808 = -((x - m - b) / 4294967296) := by
  have e : ∀ z : Int, IntKind.u64.wrap z = z % 18446744073709551616 := fun z => by simp [IntKind.wrap, IntKind.bits, IntKind.signed]
  rw [e, e]
  omega
end Go.Proofs.Ytpplleoiehnlkaa.Nt
