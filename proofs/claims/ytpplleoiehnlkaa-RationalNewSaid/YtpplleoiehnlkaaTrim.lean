/-
  What it means that a Go value of type api.Nat reads as a number; the contract of bignat.trim.
-/
import Derived.Test.YtpplleoiehnlkaaBase
import Derived.Test.YtpplleoiehnlkaaNum
namespace Go.Proofs.Ytpplleoiehnlkaa.Nt
open Go.ChangeShapes Go.WideShapes Go.ChangeAt Go.RowKit B
set_option linter.unusedVariables false

theorem info32 : (Try.prog.info? 37).map (fun i => (i.zero, i.size, i.bytes)) = some (some (.int .u32 0), 1, 4) := by kernel_rfl

theorem Row.ds {w : World} {v : Value} {l : List Int} (h : Row .u32 w v l) : Ds l := fun d hd => wf_u32 (h.wf d hd)

/-- a number, canonical or not, of at most 'c' digits -/
def Num (w : World) (v : Value) (c : Nat) (n : Int) : Prop := ∃ l, Row .u32 w v l ∧ l.length ≤ c ∧ N l = n
/-- a canonical number in new memory -/
def IsNew (base : Nat) (w : World) (v : Value) (n : Int) : Prop := ∃ l, Row .u32 w v l ∧ Canon l ∧ N l = n ∧ Fresh 37 base w v
/-- a call that returns one new number -/
def Ret1 (base : Nat) (w : World) (n : Int) (e : Ending) (w' : World) : Prop := ∃ v, e = .returned v ∧ IsNew base w' v n ∧ Below base w w'

theorem Num.keep {w w' : World} {v : Value} {c : Nat} {n : Int} (h : Num w v c n) (hb : Below w.heap.size w w') : Num w' v c n := by
  obtain ⟨l, h1, h2, h3⟩ := h
  exact ⟨l, h1.keep hb, h2, h3⟩
theorem Num.mono {w : World} {v : Value} {c d : Nat} {n : Int} (h : Num w v c n) (hd : c ≤ d) : Num w v d n := by
  obtain ⟨l, h1, h2, h3⟩ := h
  exact ⟨l, h1, by omega, h3⟩
theorem Num.nonneg {w : World} {v : Value} {c : Nat} {n : Int} (h : Num w v c n) : 0 ≤ n := by
  obtain ⟨l, h1, h2, rfl⟩ := h
  exact N_nonneg (Row.ds h1)
theorem Num.lt {w : World} {v : Value} {c : Nat} {n : Int} (h : Num w v c n) : n < Bp c := by
  obtain ⟨l, h1, h2, rfl⟩ := h
  have := N_lt (Row.ds h1)
  have := Bp_mono h2
  omega
theorem IsNew.num {base : Nat} {w : World} {v : Value} {n : Int} (h : IsNew base w v n) (c : Nat) (hc : n < Bp c) : Num w v c n := by
  obtain ⟨l, h1, h2, rfl, _⟩ := h
  exact ⟨l, h1, h2.len c hc, rfl⟩
theorem IsNew.nonneg {base : Nat} {w : World} {v : Value} {n : Int} (h : IsNew base w v n) : 0 ≤ n := by
  obtain ⟨l, h1, h2, rfl, _⟩ := h
  exact N_nonneg h2.1
theorem IsNew.nil (base : Nat) (w : World) : IsNew base w (.slice none 0 0) 0 := ⟨[], Row.nil _ _, Canon.nil, rfl, Fresh.nil _ _ _⟩

/-- what trim hands back: the slice cut to n elements -/
def Trimmed (v : Value) (l : List Int) (w : World) (e : Ending) (w' : World) : Prop :=
  ∃ a cap n, v = .slice a l.length cap ∧ n ≤ l.length ∧ e = .returned (.slice a n n) ∧ N (l.take n) = N l ∧ Canon (l.take n) ∧ w = w'
theorem Row.cut {w : World} {a : Option Addr} {len cap : Nat} {l : List Int} (h : Row .u32 w (.slice a len cap) l) (n : Nat) (hn : n ≤ l.length) : Row .u32 w (.slice a n n) (l.take n) := by
  have hl := h.len
  obtain ⟨a', c, e, h1, h2, h0, h3, h4⟩ := h
  cases e
  have hlen : (l.take n).length = n := by simp; omega
  refine ⟨a, n, by rw [hlen], by omega, by omega, fun e => by have := h0 e; omega, fun x hx => h3 x (List.mem_of_mem_take hx), fun hne => ?_⟩
  obtain ⟨b, off, rfl, hc⟩ := h4 (by rintro rfl; simp at hne)
  refine ⟨b, off, rfl, fun i hi => ?_⟩
  rw [hlen] at hi
  rw [hc i (by omega), getD_take _ _ _ hi]
theorem trim (v : Value) (l : List Int) (w : World) (h : Row .u32 w v l) :
    Calls Try.prog 64 #[v] w (Trimmed v l w) := by
  have hds := Row.ds h
  obtain ⟨a, cap, rfl, hcl, hcm, hc⟩ := Row.parts h
  have h0 : a = none → cap = 0 := by obtain ⟨_, _, e, _, _, h, _⟩ := h; cases e; exact h
  clear h
  have HC := Lib.hid hc
  have HD := Lib.hid hds
  have HO := Lib.hid h0
  clear hc hds h0
  generalize hL : l.length = len at *
  have HL := Lib.hid hL
  clear hL
  go_enter Try.func64, Try.ntmps64
  go_wp2
  go_loop [3] (fun t => ∃ k : Nat, k ≤ len ∧ t = .int .i64 k ∧ Hid (∀ i, k ≤ i → i < len → l[i]?.getD 0 = 0)) (fun t => (intOf t).toNat)
  case atStart => exact ⟨len, Nat.le_refl _, rfl, fun i h1 h2 => by omega⟩
  case round =>
    obtain ⟨k, hk, rfl, hz⟩ := hrel
    rcases k with _ | j
    · have HT := Lib.hid (And.intro (trimmed (l := l) 0 (Nat.zero_le _) (by rw [HL.out]; exact hz.out)) (canon_take HD.out 0 (Nat.zero_le _) (.inl rfl)))
      go_wp2
      go_ret
      exact ⟨a, cap, 0, by rw [HL.out], Nat.zero_le _, rfl, HT.out.1, HT.out.2, rfl⟩
    · obtain ⟨b, off, rfl, hcell, hw⟩ := HC.out j (by omega)
      by_cases h0 : l[j]?.getD 0 = 0
      · have HZ : Hid (∀ i, j ≤ i → i < len → l[i]?.getD 0 = 0) := fun i h1 h2 => by
          by_cases e : i = j
          · subst e; exact h0
          · exact hz.out i (by omega) h2
        rw [h0] at hcell
        clear h0 hw hz
        go_wp2
        refine ⟨⟨j, by omega, by go_num, HZ⟩, by simp [intOf]⟩
      · have HT := Lib.hid (And.intro (trimmed (l := l) (j + 1) (by rw [HL.out]; exact hk) (by rw [HL.out]; exact hz.out)) (canon_take HD.out (j + 1) (by rw [HL.out]; exact hk) (.inr h0)))
        have hne : ((l[j]?.getD 0) == 0) = false := by rw [beq_eq_false_iff_ne]; exact h0
        clear h0 hw hz
        go_wp2
        go_ret
        exact ⟨some ⟨b, off, none⟩, cap, j + 1, by rw [HL.out], by rw [HL.out]; exact hk, rfl, HT.out.1, HT.out.2, rfl⟩
/-- trim, for callers -/
def TrimR (w : World) (v : Value) (l : List Int) (e : Ending) (w' : World) : Prop :=
  ∃ v' l', e = .returned v' ∧ Row .u32 w v' l' ∧ N l' = N l ∧ Canon l' ∧ l'.length ≤ l.length ∧ (∀ base, Fresh 37 base w v → Fresh 37 base w v') ∧ w = w'
theorem trimR (v : Value) (l : List Int) (w : World) (h : Row .u32 w v l) : Calls Try.prog 64 #[v] w (TrimR w v l) := by
  refine (trim v l w h).mono ?_
  rintro e w' ⟨a, cap, n, rfl, hn, rfl, h1, h2, h3⟩
  exact ⟨_, _, rfl, Row.cut h n hn, h1, h2, by simp; omega, fun base hf => hf.cut, h3⟩
/-- trim of a row of the call's own -/
def TrimN (base : Nat) (w : World) (n : Int) (e : Ending) (w' : World) : Prop := ∃ v', e = .returned v' ∧ IsNew base w v' n ∧ w = w'
theorem trimN {base : Nat} {w : World} {v : Value} {m : Nat} {l : List Int} (h : w.ownsRow base 37 1 v m (l.map (Value.int .u32))) (hd : Ds l) :
    Calls Try.prog 64 #[v] w (TrimN base w (N l)) := by
  refine (trimR v l w (Row.ofOwn h (fun n hn => wf32 (hd n hn)))).mono ?_
  rintro e w' ⟨v', l', rfl, h1, h2, h3, _, h4, rfl⟩
  exact ⟨v', rfl, ⟨l', h1, h3, h2, h4 base (own_fresh h)⟩, rfl⟩
end Go.Proofs.Ytpplleoiehnlkaa.Nt
