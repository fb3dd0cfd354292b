/-
  Trim, Small, in one text: see the remarks at the head of each part.
-/
import Derived.Test.YtfidddcjieoblaaBase
import Derived.Test.YtfidddcjieoblaaNum
import Derived.Test.YtfidddcjieoblaaShelf
import Derived.Lib.ItoaNum
import Derived.WalkSmall
/-
  What it means that a Go value of type api.Nat reads as a number; the contract of bignat.trim.
-/
namespace Go.Proofs.Ytfidddcjieoblaa.Nt
open Go.ChangeShapes Go.WideShapes Go.ChangeAt Go.RowKit B
set_option linter.unusedVariables false

theorem info32 : (Try.prog.info? 125).map (fun i => (i.zero, i.size, i.bytes)) = some (some (.int .u32 0), 1, 4) := by kernel_rfl

theorem Row.ds {w : World} {v : Value} {l : List Int} (h : Row .u32 w v l) : Ds l := fun d hd => wf_u32 (h.wf d hd)

/-- a number, canonical or not, of at most 'c' digits -/
def Num (w : World) (v : Value) (c : Nat) (n : Int) : Prop := ∃ l, Row .u32 w v l ∧ l.length ≤ c ∧ N l = n
/-- a canonical number in new memory -/
def IsNew (base : Nat) (w : World) (v : Value) (n : Int) : Prop := ∃ l, Row .u32 w v l ∧ Canon l ∧ N l = n ∧ Fresh 125 base w v
/-- a call that returns one new number -/
def Ret1 (base : Nat) (w : World) (n : Int) (e : Ending) (w' : World) : Prop := ∃ v, e = .returned v ∧ IsNew base w' v n ∧ Below base w w'

theorem Num.keep {w w' : World} {v : Value} {c : Nat} {n : Int} (h : Num w v c n) (hb : Below w.heap.size w w') : Num w' v c n := by
  obtain ⟨l, h1, h2, h3⟩ := h
  exact ⟨l, h1.keep hb, h2, h3⟩
theorem Num.mono {w : World} {v : Value} {c d : Nat} {n : Int} (h : Num w v c n) (hd : c ≤ d) : Num w v d n := by
  obtain ⟨l, h1, h2, h3⟩ := h
  exact ⟨l, h1, by omega, h3⟩
theorem Num.nonneg {w : World} {v : Value} {c : Nat} {n : Int} (h : Num w v c n) : 0 ≤ n := by
  obtain ⟨l, h1, h2, rfl⟩ := h
  exact N_nonneg (Row.ds h1)
theorem Num.lt {w : World} {v : Value} {c : Nat} {n : Int} (h : Num w v c n) : n < Bp c := by
  obtain ⟨l, h1, h2, rfl⟩ := h
  have := N_lt (Row.ds h1)
  have := Bp_mono h2
  omega
theorem IsNew.num {base : Nat} {w : World} {v : Value} {n : Int} (h : IsNew base w v n) (c : Nat) (hc : n < Bp c) : Num w v c n := by
  obtain ⟨l, h1, h2, rfl, _⟩ := h
  exact ⟨l, h1, h2.len c hc, rfl⟩
theorem IsNew.nonneg {base : Nat} {w : World} {v : Value} {n : Int} (h : IsNew base w v n) : 0 ≤ n := by
  obtain ⟨l, h1, h2, rfl, _⟩ := h
  exact N_nonneg h2.1
theorem IsNew.nil (base : Nat) (w : World) : IsNew base w (.slice none 0 0) 0 := ⟨[], Row.nil _ _, Canon.nil, rfl, Fresh.nil _ _ _⟩

/-- what trim hands back: the slice cut to n elements -/
def Trimmed (v : Value) (l : List Int) (w : World) (e : Ending) (w' : World) : Prop :=
  ∃ a cap n, v = .slice a l.length cap ∧ n ≤ l.length ∧ e = .returned (.slice a n n) ∧ N (l.take n) = N l ∧ Canon (l.take n) ∧ w = w'
theorem Row.cut {w : World} {a : Option Addr} {len cap : Nat} {l : List Int} (h : Row .u32 w (.slice a len cap) l) (n : Nat) (hn : n ≤ l.length) : Row .u32 w (.slice a n n) (l.take n) := by
  have hl := h.len
  obtain ⟨a', c, e, h1, h2, h0, h3, h4⟩ := h
  cases e
  have hlen : (l.take n).length = n := by simp; omega
  refine ⟨a, n, by rw [hlen], by omega, by omega, fun e => by have := h0 e; omega, fun x hx => h3 x (List.mem_of_mem_take hx), fun hne => ?_⟩
  obtain ⟨b, off, rfl, hc⟩ := h4 (by rintro rfl; simp at hne)
  refine ⟨b, off, rfl, fun i hi => ?_⟩
  rw [hlen] at hi
  rw [hc i (by omega), getD_take _ _ _ hi]
/-- trim, for callers -/
def TrimR (w : World) (v : Value) (l : List Int) (e : Ending) (w' : World) : Prop :=
  ∃ v' l', e = .returned v' ∧ Row .u32 w v' l' ∧ N l' = N l ∧ Canon l' ∧ l'.length ≤ l.length ∧ (∀ base, Fresh 125 base w v → Fresh 125 base w v') ∧ w = w'
/-- trim of a row of the call's own -/
def TrimN (base : Nat) (w : World) (n : Int) (e : Ending) (w' : World) : Prop := ∃ v', e = .returned v' ∧ IsNew base w v' n ∧ w = w'
end Go.Proofs.Ytfidddcjieoblaa.Nt

/-
  Contracts of bignat.FromUint64, Normalize, Uint64, BitLen and Cmp.
-/
namespace Go.Proofs.Ytfidddcjieoblaa.Nt
open Go.ChangeShapes Go.WideShapes Go.ChangeAt Go.RowKit B
set_option linter.unusedVariables false

theorem own2 (w : World) (x y : Int) : (w.alloc (.cells #[.int .u32 x, .int .u32 y] 125)).ownsRow w.heap.size 125 1 (.slice (some ⟨w.heap.size, 0, none⟩) 2 2) 2 (([x, y] : List Int).map (Value.int .u32)) := by
  refine ⟨rfl, .inr ⟨w.heap.size, 2, #[.int .u32 x, .int .u32 y], rfl, Nat.le_refl _, ?_, by simp, by simp [maxLen], rfl, rfl⟩⟩
  show (w.heap.push _)[w.heap.size]? = _
  simp

theorem shl_or (x y : Int) (hx : 0 ≤ x ∧ x < 4294967296) (hy : 0 ≤ y ∧ y < 4294967296) : bits .or .u64 (x * 4294967296) y = x * 4294967296 + y := by
  obtain ⟨m, rfl⟩ := Int.eq_ofNat_of_zero_le hx.1
  obtain ⟨n, rfl⟩ := Int.eq_ofNat_of_zero_le hy.1
  have e : ((m : Int) * 4294967296) = ((m * 4294967296 : Nat) : Int) := by omega
  rw [e, u64_or_nat _ _ (by omega) (by omega)]
  have := Nat.shiftLeft_add_eq_or_of_lt (i := 32) (b := n) (by omega) m
  rw [Nat.shiftLeft_eq] at this
  rw [show m * 4294967296 = m * 2 ^ 32 by rfl, ← this]
  omega

/-- Uint64 -/
def u64R (n : Int) : Value := if n < 18446744073709551616 then .tuple #[.int .u64 n, .bool true] else .tuple #[.int .u64 0, .bool false]
theorem bitLen_top (x : Int) (h0 : 0 < x) (h1 : x < 4294967296) : 1 ≤ Lib.bitLen x.toNat ∧ Lib.bitLen x.toNat ≤ 32 ∧ (2 : Int) ^ (Lib.bitLen x.toNat - 1) ≤ x ∧ x < 2 ^ Lib.bitLen x.toNat := by
  obtain ⟨m, rfl⟩ := Int.eq_ofNat_of_zero_le (show 0 ≤ x by omega)
  rw [Int.toNat_natCast]
  have := Lib.bitLenAux_bounds 64 m (by omega) (by omega)
  refine ⟨this.1, Lib.bitLen_le m 32 (by decide) (by omega), ?_, ?_⟩
  · have h := this.2.1; unfold Lib.bitLen; exact_mod_cast h
  · have h := this.2.2; unfold Lib.bitLen; exact_mod_cast h
theorem blen_digits {m : List Int} (h : Canon m) (j : Nat) (hj : m.length = j + 1) : blen (N m) = 32 * j + Lib.bitLen (m[j]?.getD 0).toNat ∧ 0 < m[j]?.getD 0 := by
  have hds := h.1
  have e := take_drop_N m j (by omega)
  have e2 : N (m.drop j) = m[j]?.getD 0 := by
    rw [N_drop (by omega), List.drop_eq_nil_of_le (by omega)]; simp [N]
  have hb := hds.at j
  have hpos : 0 < m[j]?.getD 0 := by
    have h2 := h.2
    rw [List.getLast?_eq_getElem?, hj, Nat.add_sub_cancel] at h2
    rcases hq : m[j]? with _ | q
    · rw [List.getElem?_eq_none_iff] at hq; omega
    · rw [hq] at h2 hb
      simp at h2 hb ⊢
      omega
  refine ⟨?_, hpos⟩
  have t := bitLen_top _ hpos hb.2
  generalize Lib.bitLen (m[j]?.getD 0).toNat = t' at *
  obtain ⟨s, rfl⟩ : ∃ s, t' = s + 1 := ⟨t' - 1, by omega⟩
  have g1 := N_nonneg (hds.take j)
  have g2 := N_lt (hds.take j)
  have g3 : (m.take j).length = j := by simp; omega
  rw [g3] at g2
  rw [e2] at e
  generalize m[j]?.getD 0 = x at *
  generalize N (m.take j) = y at *
  have hB := Bp_pow j
  have hBp := Bp_pos j
  rw [Nat.add_sub_cancel] at t
  have a1 := Int.mul_le_mul_of_nonneg_left t.2.2.1 (show 0 ≤ Bp j by omega)
  have a2 := Int.mul_le_mul_of_nonneg_left (show x + 1 ≤ 2 ^ (s + 1) by omega) (show 0 ≤ Bp j by omega)
  have p1 : (2 : Int) ^ (32 * j + s) = Bp j * 2 ^ s := by rw [Int.pow_add, hB]
  have p2 : (2 : Int) ^ (32 * j + s + 1) = Bp j * 2 ^ (s + 1) := by rw [Nat.add_assoc, Int.pow_add, hB]
  rw [Int.mul_add, Int.mul_one] at a2
  have q := two_pos s
  have q2 := Int.mul_le_mul_of_nonneg_left q (show 0 ≤ Bp j by omega)
  rw [← Nat.add_assoc]
  exact blen_of (by omega) (by rw [p1]; omega) (by rw [p2]; omega)

theorem cmp_ret {m n : Int} {x : Int} (h : cmpI m n = x) : Ending.returned (.int .i64 x) = .returned (.int .i64 (cmpI m n)) := by rw [h]
end Go.Proofs.Ytfidddcjieoblaa.Nt
